/-
  Own work: parts Vna, Vnb, Fla, Lep, Blk, Pko, Mkh, Mcs, Cno, Pck, Pcl, Pcs, Pcx, Pcp, Pcq, plain lemmas.
-/
import Derived.Test.YtjpkedhcbnklmaaQ0
/-
  Own work. Nets, plainly: when a net is valid; drawn nets are.
-/
namespace Go.Pf
open Go Go.Pu
set_option linter.unusedVariables false
theorem nat_xor1 (z:Nat):(z ^^^ 1)/2=z/2:=by
 have h:=Nat.shiftRight_xor_distrib (a:=z) (b:=1) (i:=1);simp only[Nat.shiftRight_eq_div_pow,Nat.pow_one]at h;rw[h];simp
theorem gxor_lit {z m x:Int}(h:Lit z m)(hm:m<=1000000):Lit (gxor .i64 z (gand .i64 x 1)) m:=by
 have he:=gand_le x (m:=1) (by omega);unfold Lit at*;have e1:gand .i64 x 1=0\/gand .i64 x 1=1:=by
  have:gand .i64 x ((1:Nat):Int)=gand .i64 x 1:=rfl;rw[this]at he;omega
 obtain⟨n,rfl⟩:∃n:Nat,z=(n:Int):=⟨z.toNat,by omega⟩;have hb:BitVec.ofInt 64 (n:Int)=BitVec.ofNat 64 n:=rfl;have key:∀e:Nat,e<=1->((BitVec.ofInt 64 (n:Int) ^^^ BitVec.ofInt 64 (e:Int)).toNat:Int)=((n ^^^ e:Nat):Int):=fun e he=>by
  rw[show BitVec.ofInt 64 (e:Int)=BitVec.ofNat 64 e from rfl,hb,BitVec.toNat_xor,BitVec.toNat_ofNat,BitVec.toNat_ofNat,Nat.mod_eq_of_lt (by omega),Nat.mod_eq_of_lt (by omega)]
 unfold gxor;rcases e1 with e | e
 ·rw[e];have:=key 0 (by omega);rw[show(((0:Nat):Int))=0 from rfl]at this;rw[show(IntKind.bits .i64)=64 from rfl,this,Nat.xor_zero,wrap_ok (by omega)];exact h
 ·rw[e];have:=key 1 (by omega);rw[show(((1:Nat):Int))=1 from rfl]at this;have hx:=nat_xor1 n;rw[show(IntKind.bits .i64)=64 from rfl,this,wrap_ok (by omega)];omega
def VN (n:SNet):Prop:=NOk n/\∀s∈n.2.1,seqP s
theorem netOk_true {n:SNet}(h:VN n):spec_NetOk n=some true:=by
 obtain⟨hn,hq⟩:=h;have key:Tot (spec_NetOk n) (fun r=>r=true):=by
  unfold spec_NetOk;dsimp only;have hc:=caps_bd hn.caps;have hsq:=hn.sq;have han:=hn.an;refine Tot.bindEq (nodeCount_nok hn) ?_
  refine Tot.dite (fun e=>by omega) (fun _=> ?_);refine Tot.lp (fun i=>0<=i/\i<=(n.2.1.length:Int)) (fun i=>((n.2.1.length:Int) - i).toNat) ⟨by omega,by omega⟩ (fun i hi=> ?_);obtain⟨i0,i1⟩:=hi;refine Tot.dite (fun h1=> ?_) (fun h1=> ?_)
  ·refine Tot.get i0 h1 fun s _ hs=> ?_
   have hsp:=hq s hs;rw[wrap_ok (z:=i+1) (by omega),inR_spec,inR_spec];simp only[Option.bind_some];have nxt:Tot (some (Sum.inl (i+1):Int⊕Bool)) (SumP (fun s' =>(0<=s'∧s'≤(n.2.1.length:Int))/\((n.2.1.length:Int) - s').toNat<((n.2.1.length:Int) - i).toNat) (fun r=>r=true)):=Tot.next ⟨⟨by omega,by omega⟩,by omega⟩;rcases hsp with⟨k0,k1,k2⟩ | ⟨k0,k1,k2⟩
   ·refine Tot.dite (fun _=> ?_) (fun e=>absurd k0 e);refine Tot.dite (fun _=> ?_) (fun e=>absurd k1 e);exact Tot.dite (fun _=>nxt) (fun e=>by omega)
   ·refine Tot.dite (fun e=>by omega) (fun _=> ?_);refine Tot.dite (fun _=> ?_) (fun e=>absurd k0 e);refine Tot.dite (fun _=> ?_) (fun e=>absurd k1 e);exact Tot.ndite (fun e=>by omega) (fun _=>nxt)
  refine Tot.exit ?_
  clear h1 i0 i1
  refine Tot.bindEq (roots_ok hn.nb) ?_
  have hrl:(rootsOf n).length<=1001000:=roots_len hn.nb _;have hri:∀x∈rootsOf n,Lit x (nodesOf n):=fun x hx=>by
   rcases roots_mem.1 hx with q | ⟨s,hs,q⟩
   ·exact hn.outs x q
   ·exact(hn.ins s hs).2 x q
  refine Tot.lp (fun i=>0<=i/\i<=((rootsOf n).length:Int)) (fun i=>(((rootsOf n).length:Int) - i).toNat) ⟨by omega,by omega⟩ (fun i hi=> ?_);obtain⟨i0,i1⟩:=hi;refine Tot.dite (fun h1=> ?_) (fun h1=> ?_)
  ·rw[wrap_ok (z:=i+1) (by omega)];refine Tot.gin i0 h1 (Tot.get i0 h1 fun x _ hx=> ?_);have hl:=hri x hx;unfold Lit at hl;refine Tot.bindEq (lit_ok (by unfold I64;omega)) ?_
   exact Tot.ndite (fun e=>by omega) (fun _=>Tot.next ⟨⟨by omega,by omega⟩,by omega⟩)
  refine Tot.exit ?_
  clear h1 i0 i1
  refine Tot.lp (fun i=>0<=i/\i<=(n.2.2.1.length:Int)) (fun i=>((n.2.2.1.length:Int) - i).toNat) ⟨by omega,by omega⟩ (fun i hi=> ?_);obtain⟨i0,i1⟩:=hi;refine Tot.dite (fun h1=> ?_) (fun h1=>Tot.exit (Tot.ret rfl));have hl:=and_at hn i0 h1;rw[wrap_ok (z:=i+1) (by omega)];refine Tot.get i0 h1 fun a ha _=> ?_
  rw[<-ha]at hl;unfold Lit at hl;refine Tot.bindEq (first_nok hn) ?_
  rw[wrap_ok (z:=firstOf n+i) (by omega)];refine Tot.bindEq (lit_ok (by unfold I64;omega)) ?_
  refine Tot.ndite (fun e=>by omega) (fun _=> ?_);refine Tot.get i0 h1 fun a2 ha2 _=> ?_
  have e:a2=a:=by rw[ha,ha2]
  subst e;refine Tot.bindEq (first_nok hn) ?_
  rw[wrap_ok (z:=firstOf n+i) (by omega)];refine Tot.bindEq (lit_ok (by unfold I64;omega)) ?_
  exact Tot.ndite (fun e=>by omega) (fun _=>Tot.next ⟨⟨by omega,by omega⟩,by omega⟩)
 obtain⟨o,h1,h2⟩:=key;rw[h1,h2]
def AsV (F:Int)(as:List (Int×Int)):Prop:=∀k:Nat,k<as.length->Lit (as.getD k (0,0)).1 (F+(k:Int))/\Lit (as.getD k (0,0)).2 (F+(k:Int))
theorem AsV.app {F:Int}{as:List (Int×Int)}{a:Int×Int}(h:AsV F as)(h1:Lit a.1 (F+(as.length:Int)))(h2:Lit a.2 (F+(as.length:Int))):AsV F (as++[a]):=fun k hk=>by
 rw[List.length_append,List.length_singleton]at hk;by_cases c:k<as.length
 ·rw[List.getD,List.getElem?_append_left c];exact h k c
 ·have e:k=as.length:=by omega
  subst e;rw[List.getD,List.getElem?_append_right (Nat.le_refl _),Nat.sub_self];exact⟨h1,h2⟩
theorem asV_nil (F:Int):AsV F []:=fun k hk=>by simp at hk
theorem sized_valid {b:List Int}{c:Cur}(hb:CdOk b)(hc:CurOk b c){p q r:Int}(hp:1<=p/\p<=10)(hq:0<=q/\q<=10)(hr:0<=r/\r<=100):Tot (spec_l08Sized ((b,c),(p,(q,r)))) (fun o=>VN o.1/\CurOk b o.2/\1<=o.1.1):=by
 unfold spec_l08Sized;dsimp only;refine Tot.below hb hc fun x1 c1 k1 z1 y1=> ?_
 have hx1:=y1 (by omega);rw[wrap_ok (z:=1+x1) (by omega),wrap_ok (z:=q+1) (by omega),wrap_ok (z:=r+1) (by omega),wrap_ok (z:=1+(1+x1)) (by omega)];refine Tot.below hb k1 fun x2 c2 k2 _ y2=> ?_
 have hx2:=y2 (by omega);refine Tot.below hb k2 fun x3 c3 k3 _ y3=> ?_
 have hx3:=y3 (by omega);simp only;rw[wrap_ok (z:=1+(1+x1)+x2) (by omega)];generalize hF:1+(1+x1)+x2=F;refine Tot.lp (fun s=>(0<=s.1/\s.1<=x3)/\CurOk b (s.2.1,s.2.2.1)/\(s.2.2.2.length:Int)=s.1/\AsV F s.2.2.2) (fun s=>(x3 - s.1).toNat) ⟨⟨by simp only;omega,by simp only;omega⟩,k3,by simp,asV_nil F⟩ (fun s hs=> ?_);obtain⟨i,u,v,as⟩:=s;obtain⟨⟨i0,i1⟩,hcu,hl,ha⟩:=hs;simp only at i0 i1 hcu hl ha;dsimp only;refine Tot.dite (fun h1=> ?_) (fun h1=> ?_)
 ·rw[wrap_ok (z:=F+i) (by omega),wrap_ok (z:=2*(F+i)) (by omega),wrap_ok (z:=i+1) (by omega),wrap_ok (z:=2*(F+i) - 1) (by omega)];refine Tot.below hb hcu fun x4 c4 k4 _ y4=> ?_
  have hx4:0<=x4/\x4<2*(F+i) - 1:=by
   split at y4
   ·have:=y4 (by omega);omega
   ·have:=y4 (by omega);omega
  rw[wrap_ok (z:=2*(F+i) - 1 - x4) (by omega)];refine Tot.below hb k4 fun x5 c5 k5 _ y5=> ?_
  have hx5:=y5 (by omega);refine Tot.app (by simp only[List.length_singleton];omega) (by omega) ?_
  exact Tot.next ⟨⟨⟨by simp only;omega,by simp only;omega⟩,k5,by simp only[List.length_append,List.length_singleton];omega,ha.app (by unfold Lit;simp only;omega) (by unfold Lit;simp only;omega)⟩,by simp only;omega⟩
 refine Tot.exit ?_
 have hl:(as.length:Int)=x3:=by omega
 clear h1 i0 i1
 rw[wrap_ok (z:=F+x3) (by omega),wrap_ok (z:=2*(F+x3)) (by omega),wrap_ok (z:=2*(F+x3) - 1) (by omega)];have top12:∀{y:Int},(0<(if 12<2*(F+x3)then 12 else 2*(F+x3))->0<=y/\y<(if 12<2*(F+x3)then 12 else 2*(F+x3)))->0<=y/\y<2*(F+x3):=fun {y} h=>by
  split at h
  ·have:=h (by omega);omega
  ·have:=h (by omega);omega
 refine Tot.lp (fun s=>(0<=s.1/\s.1<=x2)/\CurOk b (s.2.1,s.2.2.1)/\(s.2.2.2.length:Int)=s.1/\∀a∈s.2.2.2,seqP a/\∀x∈a.2.2,Lit x (F+x3)) (fun s=>(x2 - s.1).toNat) ⟨⟨by simp only;omega,by simp only;omega⟩,hcu,by simp,fun a ha=>by cases ha⟩ (fun s hs=> ?_);obtain⟨j,u2,v2,sq⟩:=s;obtain⟨⟨j0,j1⟩,hcu2,hl2,hs2⟩:=hs;simp only at j0 j1 hcu2 hl2 hs2;dsimp only;refine Tot.dite (fun h2=> ?_) (fun h2=> ?_)
 ·refine Tot.join (A:=fun a=>CurOk b (a.1,a.2.1)/\(a.2.2.length:Int)=j+1/\∀q∈a.2.2,seqP q/\∀x∈q.2.2,Lit x (F+x3)) ?_ fun a ha2=> ?_
  ·refine Tot.once hb hcu2 fun f c6 k6=> ?_
   refine Tot.ite (fun _=> ?_) (fun _=> ?_)
   ·refine Tot.below hb k6 fun x7 c7 k7 _ y7=> ?_
    refine Tot.below hb k7 fun x8 c8 k8 _ y8=> ?_
    refine Tot.below hb k8 fun x9 c9 k9 _ y9=> ?_
    refine Tot.below hb k9 fun xa ca ka _ ya=> ?_
    refine Tot.below hb ka fun xb cb kb _ yb=> ?_
    have h7:=y7 (by omega);have h8:=y8 (by omega);have h9:=y9 (by omega);have ha:=ya (by omega);have hb:=yb (by omega);refine Tot.app (by simp only[List.length_singleton];omega) (by omega) ?_
    refine Tot.next ⟨kb,by simp only[List.length_append,List.length_singleton];omega,fun q hq=> ?_⟩;rcases List.mem_append.1 hq with hq | hq
    ·exact hs2 q hq
    ·rw[List.mem_singleton.1 hq];refine⟨.inr ⟨rfl,⟨by simp only;omega,by simp only;omega⟩,by simp⟩,fun x hx=> ?_⟩;simp only[List.mem_cons,List.not_mem_nil,or_false]at hx;unfold Lit;rcases hx with rfl | rfl | rfl | rfl<;>omega
   ·refine Tot.below hb k6 fun x7 c7 k7 _ y7=> ?_
    refine Tot.below hb k7 fun x8 c8 k8 _ y8=> ?_
    have h7:=y7 (by omega);have h8:=top12 y8;rw[wrap_ok (z:=2*(F+x3) - 1 - x8) (by omega)];refine Tot.app (by simp only[List.length_singleton];omega) (by omega) ?_
    refine Tot.next ⟨k8,by simp only[List.length_append,List.length_singleton];omega,fun q hq=> ?_⟩;rcases List.mem_append.1 hq with hq | hq
    ·exact hs2 q hq
    ·rw[List.mem_singleton.1 hq];refine⟨.inl ⟨rfl,⟨by simp only;omega,by simp only;omega⟩,by simp⟩,fun x hx=> ?_⟩;rw[List.mem_singleton.1 hx];unfold Lit;omega
  ·rw[wrap_ok (z:=j+1) (by omega)];exact Tot.next ⟨⟨⟨by simp only;omega,by simp only;omega⟩,ha2.1,ha2.2.1,ha2.2.2⟩,by simp only;omega⟩
 refine Tot.exit ?_
 have hl2:(sq.length:Int)=x2:=by omega
 clear h2 j0 j1
 refine Tot.below hb hcu2 fun x6 c6 k6 _ y6=> ?_
 have hx6:=y6 (by omega);refine Tot.lp (fun s=>(-1<=s.1/\s.1<=4)/\CurOk b (s.2.1,s.2.2.1)/\(s.2.2.2.length:Int)+s.1<=4/\∀x∈s.2.2.2,Lit x (F+x3)) (fun s=>(s.1+1).toNat) ⟨⟨by simp only;omega,by simp only;omega⟩,k6,by simp only[List.length_nil];omega,fun a ha=>by cases ha⟩ (fun s hs=> ?_);obtain⟨k,u3,v3,os⟩:=s;obtain⟨⟨m0,m1⟩,hcu3,hl3,ho3⟩:=hs;simp only at m0 m1 hcu3 hl3 ho3;dsimp only;refine Tot.dite (fun h3=> ?_) (fun h3=> ?_)
 ·refine Tot.below hb hcu3 fun x7 c7 k7 _ y7=> ?_
  have h7:=top12 y7;rw[wrap_ok (z:=2*(F+x3) - 1 - x7) (by omega)];refine Tot.app (by simp only[List.length_singleton];omega) (by omega) ?_
  rw[wrap_ok (z:=k - 1) (by omega)];refine Tot.next ⟨⟨⟨by simp only;omega,by simp only;omega⟩,k7,by simp only[List.length_append,List.length_singleton];omega,fun x hx=> ?_⟩,by simp only;omega⟩;rcases List.mem_append.1 hx with hx | hx
  ·exact ho3 x hx
  ·rw[List.mem_singleton.1 hx];unfold Lit;omega
 have eF:firstOf ((1+x1,(sq,(as,os))):SNet)=F:=by unfold firstOf;simp only;omega
 have eN:nodesOf ((1+x1,(sq,(as,os))):SNet)=F+x3:=by unfold nodesOf;rw[eF];simp only;omega
 refine Tot.exit (Tot.ret ⟨⟨⟨by simp only;omega,by simp only;omega,by simp only;omega,by simp only;omega,fun s hs=> ?_,fun x hx=> ?_,fun i hi=> ?_⟩,fun s hs=>(hs2 s hs).1⟩,hcu3,by simp only;omega⟩)
 ·rw[eN];refine⟨?_,(hs2 s hs).2⟩;rcases(hs2 s hs).1 with w | w<;>omega
 ·rw[eN];exact ho3 x hx
 ·rw[eF];exact ha i hi
end Go.Pf
/-
  Own work. Nets, plainly: hashing keeps a net valid, and its inputs.
-/
namespace Go.Pf
open Go Go.Pu
set_option linter.unusedVariables false
def SameK (xs ys:List SSeq):Prop:=xs.length=ys.length/\∀k:Nat,k<xs.length->(xs.getD k (0,(0,[]))).1=(ys.getD k (0,(0,[]))).1/\(xs.getD k (0,(0,[]))).2.1=(ys.getD k (0,(0,[]))).2.1
theorem sameK_refl (xs:List SSeq):SameK xs xs:=⟨rfl,fun _ _=>⟨rfl,rfl⟩⟩
theorem SameK.put {xs ys:List SSeq}(h:SameK xs ys){i:Int}(i0:0<=i)(i1:i<(xs.length:Int)){y:SSeq}(h1:y.1=(xs.getD i.toNat (0,(0,[]))).1)(h2:y.2.1=(xs.getD i.toNat (0,(0,[]))).2.1):SameK (gset xs i y) ys:=by
 refine⟨by rw[gset_len];exact h.1,fun k hk=> ?_⟩;rw[gset_len]at hk;by_cases c:k=i.toNat
 ·subst c;have e:(gset xs i y).getD i.toNat (0,(0,[]))=y:=by unfold gset;rw[List.getD,List.getElem?_set_self (by omega)];rfl
  rw[e,h1,h2];exact h.2 _ hk
 ·have e:(gset xs i y).getD k (0,(0,[]))=xs.getD k (0,(0,[])):=by unfold gset;rw[List.getD,List.getElem?_set_ne (by omega)];rfl
  rw[e];exact h.2 k hk
theorem SameK.seq {xs ys:List SSeq}(h:SameK xs ys){k:Nat}(hk:k<xs.length)(hy:∀s∈ys,seqP s){v:List Int}(hv:v.length=(ys.getD k (0,(0,[]))).2.2.length):seqP ((xs.getD k (0,(0,[]))).1,((xs.getD k (0,(0,[]))).2.1,v)):=by
 have:=hy _ (getD_mem (d:=(0,(0,[]))) (by rw[<-h.1];exact hk));obtain⟨e1,e2⟩:=h.2 k hk;unfold seqP at*;simp only;rw[e1,e2,hv];exact this
structure EmV (n:SNet)(r:SNet×List Int):Prop where
 inp:r.1.1=n.1
 sk:SameK r.1.2.1 n.2.1
 sq:∀s∈r.1.2.1,seqP s/\∀x∈s.2.2,Lit x (firstOf n)
 an:r.1.2.2.1=[]
 ot:r.1.2.2.2=[]
 to:(r.2.length:Int)=firstOf n
 tl:∀x∈r.2,Lit x (firstOf n)
theorem empty_valid {n:SNet}(hv:VN n):Tot (spec_l10Empty n) (EmV n):=by
 obtain⟨h,hsp⟩:=hv;unfold spec_l10Empty;have hc:=caps_bd h.caps;have hsq:=h.sq;refine Tot.join (A:=fun v=>v=n.2.1) (Tot.bindEq (copySeqs_ok h.nb.sqb) (Tot.next rfl)) fun v hv=> ?_
 subst hv;refine Tot.lp (fun s=>(0<=s.1/\s.1<=firstOf n)/\(s.2.length:Int)=s.1/\∀x∈s.2,Lit x (firstOf n)) (fun s=>(firstOf n - s.1).toNat) ⟨⟨by simp only;omega,by simp only;omega⟩,by simp,fun x hx=>(by cases hx)⟩ (fun s hs=> ?_);obtain⟨i,to⟩:=s;obtain⟨⟨i0,i1⟩,hl,hto⟩:=hs;simp only at i0 i1 hl hto;refine Tot.bindEq (first_nok h) ?_
 dsimp only;refine Tot.dite (fun h1=> ?_) (fun h1=> ?_)
 ·rw[wrap_ok (z:=2*i) (by omega)];refine Tot.app (by simp only[List.length_singleton];omega) (by omega) ?_
  rw[wrap_ok (z:=i+1) (by omega)];refine Tot.next ⟨⟨⟨by simp only;omega,by simp only;omega⟩,by simp only[List.length_append,List.length_singleton];omega,fun x hx=> ?_⟩,by simp only;omega⟩;rcases List.mem_append.1 hx with hx | hx
  ·exact hto x hx
  ·rw[List.mem_singleton.1 hx];unfold Lit;omega
 refine Tot.exit ?_
 refine Tot.lp (fun s=>(0<=s.1/\s.1<=(n.2.1.length:Int))/\SameK s.2 n.2.1/\(∀q∈s.2,seqP q)/\∀k:Nat,(k:Int)<s.1->∀x∈(s.2.getD k (0,(0,[]))).2.2,x=0) (fun s=>((n.2.1.length:Int) - s.1).toNat) ⟨⟨by simp only;omega,by simp only;omega⟩,sameK_refl _,hsp,fun k hk=>by simp only at hk;omega⟩ (fun s hs=> ?_);obtain⟨k,sq⟩:=s;obtain⟨⟨k0,k1⟩,hsk,hq,hz⟩:=hs;simp only at k0 k1 hsk hq hz;have hl2:=hsk.1;dsimp only;refine Tot.dite (fun h2=> ?_) (fun h2=> ?_)
 ·refine Tot.gin k0 h2 (Tot.get k0 h2 fun y hy hm=> ?_);have hym:=hq y hm;have hyl:y.2.2.length<=4:=by rcases hym with w | w<;>omega
  refine Tot.make (by omega) (by omega) (by omega) ?_
  refine Tot.gin k0 h2 (Tot.get k0 h2 fun y2 hy2 hm2=> ?_);have e:y2=y:=by rw[hy,hy2]
  subst e;rw[wrap_ok (z:=k+1) (by omega)];refine Tot.next ⟨⟨⟨by simp only;omega,by simp only;omega⟩,hsk.put k0 h2 (by rw[<-hy]) (by rw[<-hy]),fun q hq2=> ?_,fun j hj=> ?_⟩,by simp only;omega⟩
  ·rcases gset_mem hq2 with hq2 | rfl
   ·exact hq q hq2
   ·unfold seqP at*;simp only[List.length_replicate,Int.toNat_natCast];exact hym
  ·simp only at hj ⊢;by_cases c:j=k.toNat
   ·subst c;have e:(gset sq k (y2.1,(y2.2.1,List.replicate ((y2.2.2.length:Int)).toNat 0))).getD k.toNat (0,(0,[]))=(y2.1,(y2.2.1,List.replicate ((y2.2.2.length:Int)).toNat 0)):=by unfold gset;rw[List.getD,List.getElem?_set_self (by omega)];rfl
    rw[e];exact fun x hx=>List.eq_of_mem_replicate hx
   ·have e:(gset sq k (y2.1,(y2.2.1,List.replicate ((y2.2.2.length:Int)).toNat 0))).getD j (0,(0,[]))=sq.getD j (0,(0,[])):=by unfold gset;rw[List.getD,List.getElem?_set_ne (by omega)];rfl
    rw[e];exact hz j (by omega)
 refine Tot.exit (Tot.ret ⟨rfl,hsk,fun s hs=>⟨hq s hs,fun x hx=> ?_⟩,rfl,rfl,by simp only;omega,hto⟩);obtain⟨j,hj,rfl⟩:=List.getElem_of_mem hs;have hj2:j<sq.length:=hj;have:=hz j (by omega);rw[List.getD,List.getElem?_eq_getElem hj2]at this;rw[this x hx];unfold Lit;omega
theorem map10_valid {to lits:List Int}{m:Int}(hm:m<=1000000)(ht:∀x∈to,Lit x m)(hl:lits.length<=1000)(h:∀x∈lits,Lit x (to.length:Int))(hto:to.length<=100000):Tot (spec_l10Map (to,lits)) (fun r=>r.length=lits.length/\∀x∈r,Lit x m):=by
 unfold spec_l10Map;dsimp only;refine Tot.lp (fun s=>(0<=s.1/\s.1<=(lits.length:Int))/\(s.2.length:Int)=s.1/\∀x∈s.2,Lit x m) (fun s=>((lits.length:Int) - s.1).toNat) ⟨⟨by simp only;omega,by simp only;omega⟩,by simp,fun x hx=>by simp at hx⟩ (fun s hs=> ?_);obtain⟨i,r⟩:=s;obtain⟨⟨i0,i1⟩,hr,hx⟩:=hs;simp only at i0 i1 hr hx;dsimp only;refine Tot.dite (fun h1=> ?_) (fun h1=> ?_)
 ·refine Tot.get i0 h1 fun y hy hmm=> ?_
  have hyl:=h y hmm;unfold Lit at hyl;refine Tot.div2 (by omega) (by omega) ?_
  refine Tot.get (by omega) (by omega) fun z _ hz=> ?_
  refine Tot.get i0 h1 fun w _ _=> ?_
  refine Tot.app (by simp only[List.length_singleton];omega) (by omega) ?_
  rw[wrap_ok (z:=i+1) (by omega)];refine Tot.next ⟨⟨⟨by simp only;omega,by simp only;omega⟩,by simp only[List.length_append,List.length_singleton];omega,fun x hx2=> ?_⟩,by simp only;omega⟩;rcases List.mem_append.1 hx2 with hx2 | hx2
  ·exact hx x hx2
  ·rw[List.mem_singleton.1 hx2];exact gxor_lit (ht z hz) hm
 exact Tot.exit (Tot.ret ⟨by omega,hx⟩)
structure AdV (n:SNet)(r:SNet×Int):Prop where
 vn:VN r.1
 inp:r.1.1=n.1
 sq:r.1.2.1=n.2.1
 ot:r.1.2.2.2=n.2.2.2
 an:r.1.2.2.1.length<=n.2.2.1.length+1
 nd:nodesOf n<=nodesOf r.1
 lit:Lit r.2 (nodesOf r.1)
theorem Lit.mono {x m k:Int}(h:Lit x m)(hk:m<=k):Lit x k:=by unfold Lit at*;omega
theorem addAnd_valid {n:SNet}(hv:VN n){a b:Int}(ha:Lit a (nodesOf n))(hb:Lit b (nodesOf n))(h300:n.2.2.1.length<300):Tot (spec_AddAnd (n,(a,b))) (AdV n):=by
 obtain⟨h,hsp⟩:=hv;have hk:=netOk_true ⟨h,hsp⟩;unfold spec_AddAnd;dsimp only;have han:=h.an;have hc:=caps_bd h.caps;have lit:∀x,Lit x (nodesOf n)->Tot (some ((n,x):SNet×Int)) (AdV n):=fun x hx=>Tot.ret ⟨⟨h,hsp⟩,rfl,rfl,rfl,Nat.le_succ _,Int.le_refl _,hx⟩
 have z0:Lit 0 (nodesOf n):=by unfold Lit;omega
 have ha' :=ha;have hb' :=hb;unfold Lit at ha' hb';refine Tot.bindEq (copy_ok h.nb) ?_
 refine Tot.bindEq (nodeCount_nok h) ?_
 refine Tot.bindEq hk ?_
 refine Tot.nite (fun e=>by cases e) (fun _=> ?_);refine Tot.bindEq (lit_ok (by unfold I64;omega)) ?_
 refine Tot.ndite (fun e=>by omega) (fun _=> ?_);refine Tot.bindEq (lit_ok (by unfold I64;omega)) ?_
 refine Tot.ndite (fun e=>by omega) (fun _=> ?_);refine Tot.dite (fun _=>lit _ z0) (fun _=> ?_);refine Tot.dite (fun _=>lit _ z0) (fun _=> ?_);refine Tot.dite (fun _=>lit _ z0) (fun _=> ?_);refine Tot.dite (fun _=>lit _ hb) (fun _=> ?_);refine Tot.dite (fun _=>lit _ hb) (fun _=> ?_);refine Tot.dite (fun _=>lit _ ha) (fun _=> ?_);refine Tot.lp (fun i=>0<=i/\i<=(n.2.2.1.length:Int)) (fun i=>((n.2.2.1.length:Int) - i).toNat) ⟨by omega,by omega⟩ (fun i hi=> ?_);obtain⟨i0,i1⟩:=hi;refine Tot.dite (fun h1=> ?_) (fun h1=> ?_)
 ·refine Tot.get i0 h1 fun y _ _=> ?_
  refine Tot.ite (fun _=> ?_) (fun _=> ?_)
  ·refine Tot.bindEq (first_nok h) ?_
   rw[wrap_ok (z:=firstOf n+i) (by omega),wrap_ok (z:=2*(firstOf n+i)) (by omega)];exact Tot.exit (lit _ (by unfold Lit;omega))
  ·rw[wrap_ok (z:=i+1) (by omega)];exact Tot.next ⟨⟨by omega,by omega⟩,by omega⟩
 refine Tot.exit ?_
 refine Tot.dite (fun e=>by omega) (fun _=> ?_);refine Tot.app (by simp only[List.length_singleton];omega) (by omega) ?_
 rw[wrap_ok (z:=2*nodesOf n) (by omega)];generalize hm:((if b<a then b else a),(if a<b then b else a))=mm;have hmm:Lit mm.1 (nodesOf n)/\Lit mm.2 (nodesOf n):=by
  rw[<-hm];refine⟨?_,?_⟩
  ·simp only;split;exact hb;exact ha
  ·simp only;split;exact hb;exact ha
 have eF:firstOf ((n.1,(n.2.1,(n.2.2.1++[mm],n.2.2.2))):SNet)=firstOf n:=rfl;have eN:nodesOf ((n.1,(n.2.1,(n.2.2.1++[mm],n.2.2.2))):SNet)=nodesOf n+1:=by
  unfold nodesOf;rw[eF];simp only[List.length_append,List.length_singleton];omega
 refine Tot.ret ⟨⟨⟨h.inp,h.sq,by simp only[List.length_append,List.length_singleton];omega,h.ot,fun s hs=>⟨(h.ins s hs).1,fun x hx=> ?_⟩,fun x hx=> ?_,?_⟩,hsp⟩,rfl,rfl,rfl,by simp,by simp only;rw[eN];omega,by simp only;rw[eN];unfold Lit;omega⟩
 ·rw[eN];exact((h.ins s hs).2 x hx).mono (by omega)
 ·rw[eN];exact(h.outs x hx).mono (by omega)
 ·rw[eF];have:=AsV.app (F:=firstOf n) (as:=n.2.2.1) (a:=mm) h.ands (by rw[<-hc.2.2];exact hmm.1) (by rw[<-hc.2.2];exact hmm.2);exact this
theorem seqs_valid {n:SNet}{m:Int}{sq:List SSeq}{k:Int}(hsp:∀s∈n.2.1,seqP s)(hsk:SameK sq n.2.1)(hq:∀s∈sq,seqP s/\∀x∈s.2.2,Lit x m)(k0:0<=k)(h2:k<(sq.length:Int)){y y2:SSeq}{v:List Int}(hy:y=n.2.1.getD k.toNat (0,(0,[])))(hy2:y2=sq.getD k.toNat (0,(0,[])))(hv:v.length=y.2.2.length)(hvl:∀x∈v,Lit x m):SameK (gset sq k (y2.1,(y2.2.1,v))) n.2.1/\∀s∈gset sq k (y2.1,(y2.2.1,v)),seqP s/\∀x∈s.2.2,Lit x m:=by
 refine⟨hsk.put k0 h2 (by rw[hy2]) (by rw[hy2]),fun s hs=> ?_⟩;rcases gset_mem hs with hs | rfl
 ·exact hq s hs
 ·refine⟨?_,hvl⟩;rw[hy2];exact hsk.seq (by omega) hsp (by rw[hv,hy])
theorem sweep_valid {n:SNet}(hv:VN n):Tot (spec_Sweep n) (fun r=>VN r/\r.1=n.1):=by
 have hk:=netOk_true hv;have hv2:=hv;obtain⟨hn,hsp⟩:=hv2;unfold spec_Sweep;refine Tot.bindEq hk ?_
 dsimp only;refine Tot.nite (fun e=>by cases e) (fun _=> ?_);have hc:=caps_bd hn.caps;have hsq:=hn.sq;have han:=hn.an;refine Tot.bind (reached_nok hn hk) fun keep hkeep=> ?_
 refine Tot.bind (empty_valid hv) fun r hr=> ?_
 obtain⟨⟨ri,rs,ra,ro⟩,to⟩:=r;obtain⟨q1,q2,q3,q4,q5,q6,q7⟩:=hr;simp only at q1 q2 q3 q4 q5 q6 q7;subst q1 q4 q5;refine Tot.bindEq (first_nok hn) ?_
 refine Tot.lp (fun s=>(0<=s.1/\s.1<=(n.2.2.1.length:Int))/\(s.2.1.length:Int)=firstOf n+s.1/\s.2.2.1=firstOf n+(s.2.2.2.length:Int)/\(s.2.2.2.length:Int)<=s.1/\(∀x∈s.2.1,Lit x s.2.2.1)/\AsV (firstOf n) s.2.2.2) (fun s=>((n.2.2.1.length:Int) - s.1).toNat) ⟨⟨by simp only;omega,by simp only;omega⟩,by simp only;omega,by simp,by simp,q7,asV_nil _⟩ (fun s hs=> ?_);obtain⟨i,to,nx,as⟩:=s;obtain⟨⟨i0,i1⟩,hto,hnx,has,htl,hav⟩:=hs;simp only at i0 i1 hto hnx has htl hav;dsimp only;refine Tot.dite (fun h1=> ?_) (fun h1=> ?_)
 ·refine Tot.bindEq (first_nok hn) ?_
  rw[wrap_ok (z:=firstOf n+i) (by omega),wrap_ok (z:=i+1) (by omega)];refine Tot.gin (by omega) (by omega) (Tot.get (by omega) (by omega) fun b _ _=> ?_);refine Tot.nite (fun _=> ?_) (fun _=> ?_)
  ·refine Tot.app (by simp only[List.length_singleton];omega) (by omega) ?_
   refine Tot.next ⟨⟨⟨by simp only;omega,by simp only;omega⟩,by simp only[List.length_append,List.length_singleton];omega,hnx,by simp only;omega,fun x hx=> ?_,hav⟩,by simp only;omega⟩;rcases List.mem_append.1 hx with hx | hx
   ·exact htl x hx
   ·rw[List.mem_singleton.1 hx];unfold Lit;simp only;omega
  ·refine Tot.get i0 h1 fun a ha _=> ?_
   refine Tot.get i0 h1 fun a2 ha2 _=> ?_
   have e:a2=a:=by rw[ha,ha2]
   subst e;have hl:=and_at hn i0 h1;rw[<-ha]at hl;refine Tot.bind (map10_valid (m:=nx) (by omega) htl (by simp) (fun x hx=> ?_) (by omega)) fun v hv=> ?_
   ·rw[hto];simp only[List.mem_cons,List.not_mem_nil,or_false]at hx;rcases hx with rfl | rfl
    ·exact hl.1
    ·exact hl.2
   obtain⟨hv1,hv2⟩:=hv;simp only[List.length_cons,List.length_nil]at hv1;refine Tot.gin (by omega) (by omega) (Tot.get (by omega) (by omega) fun x _ hx=> ?_);refine Tot.gin (by omega) (by omega) (Tot.get (by omega) (by omega) fun y _ hy=> ?_);refine Tot.app (by simp only[List.length_singleton];omega) (by omega) ?_
   rw[wrap_ok (z:=2*nx) (by omega)];refine Tot.app (by simp only[List.length_singleton];omega) (by omega) ?_
   rw[wrap_ok (z:=nx+1) (by omega)];refine Tot.next ⟨⟨⟨by simp only;omega,by simp only;omega⟩,by simp only[List.length_append,List.length_singleton];omega,by simp only[List.length_append,List.length_singleton];omega,by simp only[List.length_append,List.length_singleton];omega,fun z hz=> ?_,hav.app (by rw[<-hnx];exact hv2 x hx) (by rw[<-hnx];exact hv2 y hy)⟩,by simp only;omega⟩;rcases List.mem_append.1 hz with hz | hz
   ·exact(htl z hz).mono (by simp only;omega)
   ·rw[List.mem_singleton.1 hz];unfold Lit;simp only;omega
 refine Tot.exit ?_
 have hto2:(to.length:Int)=nodesOf n:=by omega
 refine Tot.lp (fun s=>(0<=s.1/\s.1<=(n.2.1.length:Int))/\SameK s.2 n.2.1/\∀q∈s.2,seqP q/\∀x∈q.2.2,Lit x nx) (fun s=>((n.2.1.length:Int) - s.1).toNat) ⟨⟨by simp only;omega,by simp only;omega⟩,q2,fun s hs=>⟨(q3 s hs).1,fun x hx=>((q3 s hs).2 x hx).mono (by omega)⟩⟩ (fun s hs=> ?_);obtain⟨k,sq⟩:=s;obtain⟨⟨k0,k1⟩,hsk,hq⟩:=hs;simp only at k0 k1 hsk hq;have hl2:=hsk.1;dsimp only;refine Tot.dite (fun h2=> ?_) (fun h2=> ?_)
 ·refine Tot.get k0 (by omega) fun y hy hm=> ?_
  refine Tot.bind (map10_valid (m:=nx) (by omega) htl (by have:=(hn.ins y hm).1;omega) (fun x hx=>by rw[hto2];exact(hn.ins y hm).2 x hx) (by omega)) fun v hv=> ?_
  refine Tot.gin k0 h2 (Tot.get k0 h2 fun y2 hy2 _=> ?_);rw[wrap_ok (z:=k+1) (by omega)];have hsv:=seqs_valid hsp hsk hq k0 h2 hy hy2 hv.1 hv.2;exact Tot.next ⟨⟨⟨by simp only;omega,by simp only;omega⟩,hsv.1,hsv.2⟩,by simp only;omega⟩
 refine Tot.exit ?_
 refine Tot.bind (map10_valid (m:=nx) (by omega) htl (by have:=hn.ot;omega) (fun x hx=>by rw[hto2];exact hn.outs x hx) (by omega)) fun v hv=> ?_
 have eF:firstOf ((n.1,(sq,(as,v))):SNet)=firstOf n:=by unfold firstOf;simp only;omega
 have eN:nodesOf ((n.1,(sq,(as,v))):SNet)=nx:=by unfold nodesOf;rw[eF];simp only;omega
 refine Tot.ret ⟨⟨⟨hn.inp,by simp only;omega,by simp only;omega,by simp only;rw[hv.1];exact hn.ot,fun s hs=>⟨?_,fun x hx=> ?_⟩,fun x hx=> ?_,fun i hi=> ?_⟩,fun s hs=>(hq s hs).1⟩,rfl⟩
 ·rcases(hq s hs).1 with w | w<;>omega
 ·rw[eN];exact(hq s hs).2 x hx
 ·rw[eN];exact hv.2 x hx
 ·rw[eF];exact hav i hi
theorem hash_valid {n:SNet}(hv:VN n):Tot (spec_Hash n) (fun r=>VN r/\r.1=n.1):=by
 have hk:=netOk_true hv;have hv2:=hv;obtain⟨hn,hsp⟩:=hv2;unfold spec_Hash;refine Tot.bindEq hk ?_
 dsimp only;refine Tot.nite (fun e=>by cases e) (fun _=> ?_);have hc:=caps_bd hn.caps;have hsq:=hn.sq;have han:=hn.an;have hot:=hn.ot;refine Tot.bind (empty_valid hv) fun r hr=> ?_
 obtain⟨⟨ri,rs,ra,ro⟩,to⟩:=r;obtain⟨q1,q2,q3,q4,q5,q6,q7⟩:=hr;simp only at q1 q2 q3 q4 q5 q6 q7;subst q1 q4 q5;have eF0:firstOf ((n.1,(rs,([],[]))):SNet)=firstOf n:=by have:=q2.1;unfold firstOf;simp only;omega
 have eN0:nodesOf ((n.1,(rs,([],[]))):SNet)=firstOf n:=by unfold nodesOf;rw[eF0];simp
 have hv0:VN ((n.1,(rs,([],[]))):SNet):=by
  refine⟨⟨hn.inp,by have:=q2.1;simp only;omega,by simp,by simp,fun s hs=>⟨?_,fun x hx=> ?_⟩,fun x hx=>(by cases hx),fun i hi=>by simp at hi⟩,fun s hs=>(q3 s hs).1⟩
  ·rcases(q3 s hs).1 with w | w<;>omega
  ·rw[eN0];exact(q3 s hs).2 x hx
 refine Tot.lp (fun s=>(0<=s.1/\s.1<=(n.2.2.1.length:Int))/\VN (s.2.2.2.2.2,(s.2.1,(s.2.2.1,s.2.2.2.1)))/\s.2.2.2.2.2=n.1/\SameK s.2.1 n.2.1/\(s.2.2.1.length:Int)<=s.1/\(s.2.2.2.2.1.length:Int)=firstOf n+s.1/\∀x∈s.2.2.2.2.1,Lit x (nodesOf (s.2.2.2.2.2,(s.2.1,(s.2.2.1,s.2.2.2.1))))) (fun s=>((n.2.2.1.length:Int) - s.1).toNat)
  ⟨⟨by simp only;omega,by simp only;omega⟩,hv0,rfl,q2,by simp,by simp only;omega,fun x hx=>by simp only;rw[eN0];exact q7 x hx⟩ (fun s hs=> ?_)
 obtain⟨i,sq,as,os,to,inp⟩:=s;obtain⟨⟨i0,i1⟩,hvn,hinp,hsk,hal,htl,hlt⟩:=hs;simp only at i0 i1 hvn hinp hsk hal htl hlt;subst hinp;have hcn:=caps_bd hvn.1.caps;dsimp only;refine Tot.dite (fun h1=> ?_) (fun h1=> ?_)
 ·have hlit:=and_at hn i0 h1;refine Tot.get i0 h1 fun a ha _=> ?_
  rw[<-ha]at hlit;unfold Lit at hlit;refine Tot.div2 (by omega) (by omega) ?_
  refine Tot.gin (by omega) (by omega) (Tot.get (by omega) (by omega) fun x _ hx=> ?_);refine Tot.get i0 h1 fun a2 _ _=> ?_
  refine Tot.get i0 h1 fun a3 ha3 _=> ?_
  have e:a3=a:=by rw[ha,ha3]
  subst e;refine Tot.div2 (by omega) (by omega) ?_
  refine Tot.gin (by omega) (by omega) (Tot.get (by omega) (by omega) fun y _ hy=> ?_);refine Tot.get i0 h1 fun a4 _ _=> ?_
  refine Tot.bind (addAnd_valid hvn (gxor_lit (hlt x hx) (by omega)) (gxor_lit (hlt y hy) (by omega)) (by simp only;omega)) fun r hr=> ?_
  obtain⟨⟨mi,ms,ma,mo⟩,z⟩:=r;obtain⟨r1,r2,r3,r4,r5,r6,r7⟩:=hr;simp only at r1 r2 r3 r4 r5 r6 r7;subst r2 r3 r4;refine Tot.app (by simp only[List.length_singleton];omega) (by omega) ?_
  rw[wrap_ok (z:=i+1) (by omega)];refine Tot.next ⟨⟨⟨by simp only;omega,by simp only;omega⟩,r1,rfl,hsk,by simp only;omega,by simp only[List.length_append,List.length_singleton];omega,fun w hw=> ?_⟩,by simp only;omega⟩;rcases List.mem_append.1 hw with hw | hw
  ·exact(hlt w hw).mono r6
  ·rw[List.mem_singleton.1 hw];exact r7
 refine Tot.exit ?_
 have hto2:(to.length:Int)=nodesOf n:=by omega
 have hM:nodesOf ((n.1,(sq,(as,os))):SNet)<=333:=by omega
 have hdef:nodesOf ((n.1,(sq,(as,os))):SNet)=firstOf n+(as.length:Int):=by
  have:=hsk.1;unfold nodesOf firstOf;simp only;omega
 generalize hMM:nodesOf ((n.1,(sq,(as,os))):SNet)=M at*;have fin:Tot (spec_l10Finish ((n.1,(sq,(as,os))),(n,to))) (fun r=>VN r.1/\r.1.1=n.1):=by
  unfold spec_l10Finish;dsimp only;refine Tot.lp (fun s=>(0<=s.1/\s.1<=(n.2.1.length:Int))/\SameK s.2 n.2.1/\∀q∈s.2,seqP q/\∀x∈q.2.2,Lit x M) (fun s=>((n.2.1.length:Int) - s.1).toNat) ⟨⟨by simp only;omega,by simp only;omega⟩,hsk,fun s hs=>⟨hvn.2 s hs,fun x hx=>by rw[<-hMM];exact(hvn.1.ins s hs).2 x hx⟩⟩ (fun s hs=> ?_);obtain⟨k,sq2⟩:=s;obtain⟨⟨k0,k1⟩,hsk2,hq⟩:=hs;simp only at k0 k1 hsk2 hq;have hl2:=hsk2.1;dsimp only;refine Tot.dite (fun h2=> ?_) (fun h2=> ?_)
  ·refine Tot.get k0 (by omega) fun y hy hm=> ?_
   refine Tot.bind (map10_valid (m:=M) (by omega) hlt (by have:=(hn.ins y hm).1;omega) (fun x hx=>by rw[hto2];exact(hn.ins y hm).2 x hx) (by omega)) fun v hv=> ?_
   refine Tot.gin k0 h2 (Tot.get k0 h2 fun y2 hy2 _=> ?_);rw[wrap_ok (z:=k+1) (by omega)];have hsv:=seqs_valid hsp hsk2 hq k0 h2 hy hy2 hv.1 hv.2;exact Tot.next ⟨⟨⟨by simp only;omega,by simp only;omega⟩,hsv.1,hsv.2⟩,by simp only;omega⟩
  refine Tot.exit ?_
  refine Tot.bind (map10_valid (m:=M) (by omega) hlt (by omega) (fun x hx=>by rw[hto2];exact hn.outs x hx) (by omega)) fun v hv=> ?_
  have eF:firstOf ((n.1,(sq2,(as,v))):SNet)=firstOf n:=by unfold firstOf;simp only;omega
  have eN:nodesOf ((n.1,(sq2,(as,v))):SNet)=M:=by unfold nodesOf;rw[eF];simp only;omega
  have hvf:VN ((n.1,(sq2,(as,v))):SNet):=by
   refine⟨⟨hn.inp,by simp only;omega,by simp only;omega,by simp only;rw[hv.1];exact hot,fun s hs=>⟨?_,fun x hx=> ?_⟩,fun x hx=> ?_,fun i hi=> ?_⟩,fun s hs=>(hq s hs).1⟩
   ·rcases(hq s hs).1 with w | w<;>omega
   ·rw[eN];exact(hq s hs).2 x hx
   ·rw[eN];exact hv.2 x hx
   ·rw[eF];have:=hvn.1.ands i hi;have e2:firstOf ((n.1,(sq,(as,os))):SNet)=firstOf n:=by have:=hsk.1;unfold firstOf;simp only;omega
    rw[e2]at this;exact this
  refine Tot.bind (sweep_valid hvf) fun r hr=> ?_
  exact Tot.ret hr
 refine Tot.bind fin fun r hr=>Tot.ret hr
end Go.Pf
/-
  Own work. Flows, plainly: the search for one more path.
-/
namespace Go.Pf
open Go Go.Pu
set_option linter.unusedVariables false
def FR (n:SNet)(k x:Int):Prop:=IsA n k/\1<=x/\(x=ndA n k\/x=ndB n k)
theorem FR.lt {n:SNet}(h:NOk n){k x:Int}(f:FR n k x):(1<=x/\x<k)/\firstOf n<=k/\k<nodesOf n:=by
 obtain⟨h1,h2,h3⟩:=f;have h4:=nd_at h h1;unfold IsA at h1;rcases h3 with e | e<;>omega
theorem fan_all {n:SNet}(h:NOk n){k:Int}(k0:0<=k)(k1:k<nodesOf n):Tot (spec_l17Fan (n,k)) (fun r=>r.length<=2/\∀x,x∈r↔FR n k x):=by
 unfold spec_l17Fan;dsimp only;have hc:=caps_bd h.caps;refine Tot.bindEq (first_nok h) ?_
 refine Tot.dite (fun hf=>Tot.ret ⟨by simp,fun x=>⟨fun hx=>(by cases hx),fun hx=>by have:=hx.1;unfold IsA at this;omega⟩⟩) (fun hf=> ?_);have hia:IsA n k:=⟨by omega,k1⟩;refine Tot.bindEq (first_nok h) ?_
 rw[wrap_ok (z:=k - firstOf n) (by omega)];refine Tot.get (by omega) (by omega) fun a ha _=> ?_
 have hl:=and_at h (show 0<=k - firstOf n by omega) (by omega);rw[<-ha]at hl;unfold Lit at hl;have eA:ndA n k=a.1/2:=by unfold ndA;rw[<-ha]
 have eB:ndB n k=a.2/2:=by unfold ndB;rw[<-ha]
 refine Tot.dite (fun c1=> ?_) (fun c1=> ?_)
 ·refine Tot.div2 (by omega) (by omega) ?_
  refine Tot.app (by simp) (by omega) ?_
  refine Tot.dite (fun c2=> ?_) (fun c2=> ?_)
  ·refine Tot.div2 (by omega) (by omega) ?_
   refine Tot.app (by simp) (by omega) ?_
   refine Tot.ret ⟨by simp,fun x=> ?_⟩;simp only[List.nil_append,List.cons_append,List.mem_cons,List.not_mem_nil,or_false];unfold FR;rw[eA,eB];exact⟨fun e=>⟨hia,by omega,e⟩,fun e=>e.2.2⟩
  ·refine Tot.ret ⟨by simp,fun x=> ?_⟩;simp only[List.nil_append,List.mem_cons,List.not_mem_nil,or_false];unfold FR;rw[eA,eB];exact⟨fun e=>⟨hia,by omega,.inl e⟩,fun e=>by have:=e.2;omega⟩
 ·refine Tot.dite (fun c2=> ?_) (fun c2=>Tot.ret ⟨by simp,fun x=>⟨fun hx=>(by cases hx),fun hx=>by
   obtain⟨_,q1,q2⟩:=hx;rw[eA,eB]at q2;omega⟩⟩)
  refine Tot.div2 (by omega) (by omega) ?_
  refine Tot.app (by simp) (by omega) ?_
  refine Tot.ret ⟨by simp,fun x=> ?_⟩;simp only[List.nil_append,List.mem_cons,List.not_mem_nil,or_false];unfold FR;rw[eA,eB];exact⟨fun e=>⟨hia,by omega,.inr e⟩,fun e=>by have:=e.2;omega⟩
def nI (b:List Int)(x:Int):Int:=b.getD x.toNat 0
theorem nI_set {b:List Int}{i x:Int}(i0:0<=i)(i1:i<(b.length:Int))(x0:0<=x)(v:Int):nI (gset b i v) x=if i=x then v else nI b x:=by
 unfold nI gset;by_cases h:i=x
 ·subst h;rw[if_pos rfl,List.getD,List.getElem?_set_self (by omega)];rfl
 ·rw[if_neg h,List.getD,List.getElem?_set_ne (by omega)];rfl
inductive Ed (n:SNet)(U S:List Bool)(ab:List Int):Int->Int->Prop
 | root (t s k x:Int):t= -1->s=2*x->0<=k->bI U k=true->FR n k x->bI U x=false->Ed n U S ab t s
 | thru (t s k:Int):t=2*k->s=2*k+1->0<=k->k<nodesOf n->bI S k=false->Ed n U S ab t s
 | up (t s k:Int):t=2*k->s=2*nI ab k+1->0<=k->k<nodesOf n->bI S k=true->0<=nI ab k->Ed n U S ab t s
 | down (t s k x:Int):t=2*k+1->s=2*x->FR n k x->Ed n U S ab t s
 | undo (t s k:Int):t=2*k+1->s=2*k->IsA n k->bI S k=true->Ed n U S ab t s
theorem ab_at {n:SNet}{ab:List Int}(ha:AbOk n ab){k:Int}(k0:0<=k)(k1:k<nodesOf n): -1<=nI ab k/\nI ab k<nodesOf n:=by
 refine ha.2 _ ?_
 unfold nI;exact getD_mem (by have:=ha.1;omega)
theorem Ed.rng {n:SNet}(h:NOk n){U S:List Bool}{ab:List Int}(ha:AbOk n ab){t s:Int}(e:Ed n U S ab t s):0<=s/\s<2*nodesOf n:=by
 have hc:=caps_bd h.caps;cases e with
 | root k x h1 h2 h3 h4 h5 h6=>have:=h5.lt h;omega
 | thru k h1 h2 h3 h4 h5=>omega
 | up k h1 h2 h3 h4 h5 h6=>have:=ab_at ha h3 h4;omega
 | down k x h1 h2 h3=>have:=h3.lt h;omega
 | undo k h1 h2 h3 h4=>unfold IsA at h3;omega
structure SJ (n:SNet)(U S:List Bool)(ab:List Int)(P:Int->Prop)(M:Nat)(b q:List Int):Prop where
 si:SI M b q
 vis:∀x,0<=x->x<(M:Int)->nI b x≠-2->x∈q
 ed:∀x∈q,Ed n U S ab (nI b x) x
 pp:∀x∈q,P (x/2)
theorem SJ.push {n:SNet}{U S:List Bool}{ab:List Int}{P:Int->Prop}{M:Nat}{b q:List Int}(h:SJ n U S ab P M b q){x v:Int}(x0:0<=x/\x<(M:Int))(hx:nI b x= -2)(hv:v= -1\/v∈q)(he:Ed n U S ab v x)(hp:P (x/2)):SJ n U S ab P M (gset b x v) (q++[x])/\(∀y,0<=y->nI b y≠-2->nI (gset b x v) y≠-2)/\nI (gset b x v) x≠-2:=by
 have hbl:=h.si.len;have hv2:v≠-2:=by
  rcases hv with rfl | hv
  ·omega
  ·have:=(h.si.mem v hv).1;omega
 have hxq:x∉q:=fun hm=>(h.si.mem x hm).2 hx
 have g:∀y,0<=y->nI (gset b x v) y=if x=y then v else nI b y:=fun y hy=>nI_set x0.1 (by omega) hy v
 refine⟨⟨h.si.push x0 hx hv,fun y y0 y1 hy=> ?_,fun y hy=> ?_,fun y hy=> ?_⟩,fun y y0 hy=> ?_,?_⟩
 ·rw[g y y0]at hy;split at hy
  ·rename_i c;rw[<-c];simp
  ·exact List.mem_append_left _ (h.vis y y0 y1 hy)
 ·rcases List.mem_append.1 hy with q1 | q1
  ·have y0:=(h.si.mem y q1).1.1;have hne:¬x=y:=fun e=>hxq (e▸q1)
   rw[g y y0,if_neg hne];exact h.ed y q1
  ·rw[List.mem_singleton.1 q1,g x x0.1,if_pos rfl];exact he
 ·rcases List.mem_append.1 hy with q1 | q1
  ·exact h.pp y q1
  ·rw[List.mem_singleton.1 q1];exact hp
 ·rw[g y y0];split
  ·exact hv2
  ·exact hy
 ·rw[g x x0.1,if_pos rfl];exact hv2
structure Clo (n:SNet)(U S:List Bool)(ab:List Int)(b:List Int):Prop where
 cl:∀t s,(t= -1\/(0<=t/\t<2*nodesOf n/\nI b t≠-2))->Ed n U S ab t s->nI b s≠-2
 fst:∀k,0<=k->k<nodesOf n->nI b (2*k+1)≠-2->firstOf n<=k
theorem search_all {n:SNet}(h:NOk n){U S:List Bool}{ab:List Int}(hu:(U.length:Int)=nodesOf n)(hs:(S.length:Int)=nodesOf n)(ha:AbOk n ab){P:Int->Prop}(hP:∀t s,Ed n U S ab t s->(t= -1\/P (t/2))->P (s/2)):Tot (spec_l17Search (n,(U,(S,ab)))) (fun r=>∃q,SJ n U S ab P (2*nodesOf n).toNat r.1 q/\((r.2= -1/\Clo n U S ab r.1)\/(r.2∈q/\∃k,0<=k/\k<firstOf n/\r.2=2*k+1))):=by
 unfold spec_l17Search;dsimp only;have hc:=caps_bd h.caps;obtain⟨M,hM⟩:∃M:Nat,2*nodesOf n=(M:Int):=⟨(2*nodesOf n).toNat,by omega⟩;have hM2:(2*nodesOf n).toNat=M:=by omega
 rw[hM2];refine Tot.lp (fun s=>(0<=s.1/\s.1<=(M:Int))/\s.2=List.replicate s.1.toNat (-2)) (fun s=>((M:Int) - s.1).toNat) ⟨⟨by simp only;omega,by simp only;omega⟩,by simp⟩ (fun s hs0=> ?_);obtain⟨i,b⟩:=s;obtain⟨⟨i0,i1⟩,hb⟩:=hs0;simp only at i0 i1 hb;refine Tot.bindEq (nodeCount_nok h) ?_
 dsimp only;rw[wrap_ok (z:=2*nodesOf n) (by omega)];refine Tot.dite (fun h1=> ?_) (fun h1=> ?_)
 ·subst hb;refine Tot.app (by simp only[List.length_singleton,List.length_replicate];omega) (by omega) ?_
  rw[wrap_ok (z:=i+1) (by omega)];refine Tot.next ⟨⟨⟨by simp only;omega,by simp only;omega⟩,?_⟩,by simp only;omega⟩;simp only;rw[show(i+1).toNat=i.toNat+1 by omega,List.replicate_succ']
 refine Tot.exit ?_
 have hiM:i.toNat=M:=by omega
 rw[hiM]at hb
 clear h1 i0 i1
 have hrep:∀x:Int,0<=x->x<(M:Int)->nI (List.replicate M (-2)) x= -2:=fun x x0 x1=>by
  unfold nI;rw[List.getD,List.getElem?_replicate,if_pos (by omega)];rfl

 refine Tot.lp (fun s=>(0<=s.1/\s.1<=nodesOf n)/\SJ n U S ab P M s.2.1 s.2.2/\∀k x,0<=k->k<s.1->bI U k=true->FR n k x->bI U x=false->nI s.2.1 (2*x)≠-2) (fun s=>(nodesOf n - s.1).toNat) ⟨⟨by simp only;omega,by simp only;omega⟩,by simp only;rw[hb];exact⟨SI.start M,fun x x0 x1 hx=>absurd (hrep x x0 x1) hx,fun x hx=>(by cases hx),fun x hx=>(by cases hx)⟩,fun k x k0 k1=>by simp only at k1;omega⟩ (fun s hs0=> ?_);obtain⟨k,b1,q1⟩:=s;obtain⟨⟨k0,k1⟩,hsj,hrt⟩:=hs0;simp only at k0 k1 hsj hrt;refine Tot.bindEq (nodeCount_nok h) ?_
 dsimp only;refine Tot.dite (fun h1=> ?_) (fun h1=> ?_)
 ·refine Tot.bind (fan_all h k0 h1) fun fan hfan=> ?_
  refine Tot.join (A:=fun a:List Int×List Int=>SJ n U S ab P M a.1 a.2/\∀k' x,0<=k'→k' <k+1->bI U k' =true->FR n k' x->bI U x=false->nI a.1 (2*x)≠-2) ?_ fun a ha2=> ?_
  ·refine Tot.lp (fun s=>(0<=s.1/\s.1<=(fan.length:Int))/\SJ n U S ab P M s.2.1 s.2.2/\(∀k' x,0<=k'→k' <k->bI U k' =true->FR n k' x->bI U x=false->nI s.2.1 (2*x)≠-2)/\∀x∈fan.take s.1.toNat,bI U x=false->nI s.2.1 (2*x)≠-2) (fun s=>((fan.length:Int) - s.1).toNat) ⟨⟨by simp only;omega,by simp only;omega⟩,hsj,hrt,fun x hx=>by simp at hx⟩ (fun s hs0=> ?_);obtain⟨j,b2,q2⟩:=s;obtain⟨⟨j0,j1⟩,hsj2,hrt2,hfn⟩:=hs0;simp only at j0 j1 hsj2 hrt2 hfn;dsimp only;have hql:=hsj2.si.qlen;have hbl:=hsj2.si.len;have hf2:=hfan.1;refine Tot.dite (fun h2=> ?_) (fun h2=>Tot.exit (Tot.next ⟨hsj2,fun k' x k'0 k'1 u1 u2 u3=> ?_⟩))
   ·rw[wrap_ok (z:=j+1) (by omega)];refine Tot.get k0 (by omega) fun uk huk _=> ?_
    change uk=bI U k at huk
    refine Tot.ite (fun hut=> ?_) (fun huf=>Tot.exit (Tot.next ⟨hsj2,fun k' x k'0 k'1 u1 u2 u3=> ?_⟩))
    ·refine Tot.gin j0 h2 (Tot.get j0 h2 fun x hx hxm=> ?_);have hfr:=(hfan.2 x).1 hxm;have hxr:=hfr.lt h;refine Tot.get (by omega) (by omega) fun ux hux _=> ?_
     change ux=bI U x at hux
     refine Tot.nite (fun hxf=> ?_) (fun hxt=> ?_)
     ·refine Tot.gin j0 h2 (Tot.get j0 h2 fun x2 hx2 _=> ?_);have e:x2=x:=by rw[hx,hx2]
      subst e;rw[wrap_ok (z:=2*x2) (by omega)];refine Tot.gin (by omega) (by omega) (Tot.get (by omega) (by omega) fun y hy _=> ?_)
      change y=nI b2 (2*x2)at hy
      refine Tot.dite (fun hy2=> ?_) (fun hy2=> ?_)
      ·refine Tot.gin j0 h2 (Tot.get j0 h2 fun x3 hx3 _=> ?_);have e:x3=x2:=by rw[hx,hx3]
       subst e;rw[wrap_ok (z:=2*x3) (by omega)];refine Tot.gin (by omega) (by omega) (Tot.get (by omega) (by omega) fun _ _ _=> ?_);refine Tot.gin j0 h2 (Tot.get j0 h2 fun x4 hx4 _=> ?_);have e:x4=x3:=by rw[hx,hx4]
       subst e;rw[wrap_ok (z:=2*x4) (by omega)];refine Tot.app (by simp only[List.length_singleton];omega) (by omega) ?_
       have hed:Ed n U S ab (-1) (2*x4):= .root _ _ k x4 rfl rfl k0 (by rw[<-huk];exact hut) hfr (by rw[<-hux];exact hxf);obtain⟨p1,p2,p3⟩:=hsj2.push (x:=2*x4) (v:= -1) (by omega) (by rw[<-hy];exact hy2) (.inl rfl) hed (hP _ _ hed (.inl rfl));refine Tot.next ⟨⟨⟨by simp only;omega,by simp only;omega⟩,p1,fun k' x k'0 k'1 u1 u2 u3=>p2 _ (by have:=(u2.lt h).1;omega) (hrt2 k' x k'0 k'1 u1 u2 u3),fun x hx5 hu5=> ?_⟩,by simp only;omega⟩;simp only at hx5 ⊢;rw[takec j0 h2,<-hx]at hx5;rcases List.mem_append.1 hx5 with q | q
       ·exact p2 _ (by have:=((hfan.2 x).1 (List.mem_of_mem_take q)).lt h;omega) (hfn x q hu5)
       ·rw[List.mem_singleton.1 q];exact p3
      ·refine Tot.next ⟨⟨⟨by simp only;omega,by simp only;omega⟩,hsj2,hrt2,fun x hx5 hu5=> ?_⟩,by simp only;omega⟩;simp only at hx5 ⊢;rw[takec j0 h2,<-hx]at hx5;rcases List.mem_append.1 hx5 with q | q
       ·exact hfn x q hu5
       ·rw[List.mem_singleton.1 q,<-hy];exact hy2
     ·refine Tot.next ⟨⟨⟨by simp only;omega,by simp only;omega⟩,hsj2,hrt2,fun x' hx5 hu5=> ?_⟩,by simp only;omega⟩;simp only at hx5 ⊢;rw[takec j0 h2,<-hx]at hx5;rcases List.mem_append.1 hx5 with q | q
      ·exact hfn x' q hu5
      ·rw[List.mem_singleton.1 q,<-hux,hxt]at hu5;cases hu5
    ·by_cases ck:k' =k
     ·subst ck;rw[<-huk,huf]at u1;cases u1
     ·exact hrt2 k' x k'0 (by omega) u1 u2 u3
   ·by_cases ck:k' =k
    ·subst ck;have hx:=(hfan.2 x).2 u2;rw[<-List.take_length (l:=fan)]at hx;rw[show j.toNat=fan.length by omega]at hfn;exact hfn x hx u3
    ·exact hrt2 k' x k'0 (by omega) u1 u2 u3
  ·rw[wrap_ok (z:=k+1) (by omega)];exact Tot.next ⟨⟨⟨by simp only;omega,by simp only;omega⟩,ha2.1,ha2.2⟩,by simp only;omega⟩
 refine Tot.exit ?_
 have hkN:k=nodesOf n:=by omega
 subst hkN
 clear h1 k0 k1

 refine Tot.lp (fun s=>(0<=s.1/\s.1<=(s.2.2.length:Int))/\SJ n U S ab P M s.2.1 s.2.2/\(∀k' x,0<=k'→k' <nodesOf n->bI U k' =true->FR n k' x->bI U x=false->nI s.2.1 (2*x)≠-2)/\(∀t∈s.2.2.take s.1.toNat,(∀z,Ed n U S ab t z->nI s.2.1 z≠-2)/\∀k,t=2*k+1->firstOf n<=k)) (fun s=>((M:Int) - s.1).toNat) ⟨⟨by simp only;omega,by simp only;omega⟩,hsj,hrt,fun t ht=>by simp at ht⟩ (fun s hs0=> ?_);obtain⟨c,b2,q2⟩:=s;obtain⟨⟨c0,c1⟩,hsj2,hrt2,hcl⟩:=hs0;simp only at c0 c1 hsj2 hrt2 hcl;have hql:=hsj2.si.qlen;have hbl:=hsj2.si.len;dsimp only;refine Tot.dite (fun h1=> ?_) (fun h1=>Tot.exit (Tot.ret ⟨q2,hsj2,.inl ⟨rfl,⟨fun t s ht he=> ?_,fun k k0 k1 hk=> ?_⟩⟩⟩))
 rotate_left
 ·rw[show c.toNat=q2.length by omega,List.take_length]at hcl;rcases ht with rfl | ⟨t0,t1,t2⟩
  ·cases he with
   | root k x h1 h2 h3 h4 h5 h6=>rw[h2];exact hrt2 k x h3 (by have:=h5.lt h;omega) h4 h5 h6
   | thru k h1 h2 h3 h4 h5=>omega
   | up k h1 h2 h3 h4 h5 h6=>omega
   | down k x h1 h2 h3=>have:=h3.lt h;omega
   | undo k h1 h2 h3 h4=>unfold IsA at h3;omega
  ·exact(hcl t (hsj2.vis t t0 (by omega) t2)).1 s he
 ·rw[show c.toNat=q2.length by omega,List.take_length]at hcl;exact(hcl _ (hsj2.vis _ (by omega) (by omega) hk)).2 k rfl
 refine Tot.gin c0 h1 (Tot.get c0 h1 fun x hx hxm=> ?_);have hxr:=(hsj2.si.mem x hxm).1;refine Tot.div2 (by omega) (by omega) ?_
 have hk:0<=x/2/\x/2<nodesOf n:=by omega
 refine Tot.join (A:=fun nx:List Int=>nx.length<=3/\(∀y,y∈nx↔Ed n U S ab x y)/\∀k,x=2*k+1->firstOf n<=k) ?_ fun nx hnx=> ?_
 ·refine Tot.gin c0 h1 (Tot.get c0 h1 fun x2 hx2 _=> ?_);have e:x2=x:=by rw[hx,hx2]
  subst e;refine Tot.rem (by omega) (by omega) ?_
  refine Tot.dite (fun hev=> ?_) (fun hod=> ?_)
  ·have ex:x2=2*(x2/2):=by omega
   refine Tot.get hk.1 (by omega) fun sk hsk _=> ?_
   change sk=bI S (x2/2)at hsk
   refine Tot.nite (fun hsf=> ?_) (fun hst=> ?_)
   ·rw[wrap_ok (z:=2*(x2/2)) (by omega),wrap_ok (z:=2*(x2/2)+1) (by omega)];refine Tot.app (by simp) (by omega) ?_
    refine Tot.next ⟨by simp,fun y=> ?_,fun k hk=>by omega⟩;simp only[List.nil_append,List.mem_singleton]
    constructor
    ·intro e;exact .thru _ _ (x2/2) ex e hk.1 hk.2 (by rw[<-hsk];exact hsf)
    ·intro he;cases he with
     | root k x h1 h2 h3 h4 h5 h6=>omega
     | thru k h1 h2 h3 h4 h5=>omega
     | up k h1 h2 h3 h4 h5 h6=>
      have:k=x2/2:=by omega
      rw[this,<-hsk,hsf]at h5;cases h5
     | down k x h1 h2 h3=>omega
     | undo k h1 h2 h3 h4=>omega
   ·refine Tot.get hk.1 (by rw[ha.1];omega) fun w hw _=> ?_
    change w=nI ab (x2/2)at hw
    have ed3:∀y,Ed n U S ab x2 y->0<=w/\y=2*w+1:=fun y he=>by
     cases he with
     | root k x h1 h2 h3 h4 h5 h6=>omega
     | thru k h1 h2 h3 h4 h5=>
      have:k=x2/2:=by omega
      rw[this,<-hsk,hst]at h5;cases h5
     | up k h1 h2 h3 h4 h5 h6=>
      have:k=x2/2:=by omega
      rw[this,<-hw]at h2 h6;exact⟨h6,h2⟩
     | down k x h1 h2 h3=>omega
     | undo k h1 h2 h3 h4=>omega
    refine Tot.dite (fun hw0=> ?_) (fun hw0=>Tot.next ⟨by simp,fun y=>⟨fun hy=>(by cases hy),fun he=>absurd (ed3 y he).1 hw0⟩,fun k hk=>by omega⟩);refine Tot.get hk.1 (by rw[ha.1];omega) fun w2 hw2 hwm=> ?_
    change w2=nI ab (x2/2)at hw2
    have e:w2=w:=by rw[hw,hw2]
    subst e;have hwr:=ha.2 w2 hwm;rw[wrap_ok (z:=2*w2) (by omega),wrap_ok (z:=2*w2+1) (by omega)];refine Tot.app (by simp) (by omega) ?_
    refine Tot.next ⟨by simp,fun y=> ?_,fun k hk=>by omega⟩;simp only[List.nil_append,List.mem_singleton]
    constructor
    ·intro e;exact .up _ _ (x2/2) ex (by rw[<-hw];exact e) hk.1 hk.2 (by rw[<-hsk];exact hst) (by rw[<-hw];exact hw0)
    ·intro he;exact(ed3 y he).2
  ·have ex:x2=2*(x2/2)+1:=by omega
   refine Tot.bindEq (first_nok h) ?_
   refine Tot.dite (fun hlt=> ?_) (fun hge=> ?_)
   ·refine Tot.gin c0 h1 (Tot.get c0 h1 fun x3 hx3 hx3m=> ?_);have e:x3=x2:=by rw[hx,hx3]
    subst e;exact Tot.exit (Tot.exit (Tot.ret ⟨q2,hsj2,.inr ⟨hx3m,x3/2,hk.1,hlt,ex⟩⟩))
   ·refine Tot.bind (fan_all h hk.1 hk.2) fun fan hfan=> ?_
    have hf2:=hfan.1;have ed3:∀y,Ed n U S ab x2 y->(∃z∈fan,y=2*z)\/(y=2*(x2/2)/\bI S (x2/2)=true):=fun y he=>by
     cases he with
     | root k x h1 h2 h3 h4 h5 h6=>omega
     | thru k h1 h2 h3 h4 h5=>omega
     | up k h1 h2 h3 h4 h5 h6=>omega
     | down k x h1 h2 h3=>
      have:k=x2/2:=by omega
      rw[this]at h3;exact .inl ⟨x,(hfan.2 x).2 h3,h2⟩
     | undo k h1 h2 h3 h4=>
      have:k=x2/2:=by omega
      rw[this]at h2 h4;exact .inr ⟨h2,h4⟩
    have hod2:∀k,x2=2*k+1->firstOf n<=k:=fun k hk=>by omega
    refine Tot.lp (fun s=>(0<=s.1/\s.1<=(fan.length:Int))/\(s.2.length:Int)=s.1/\∀y,y∈s.2↔∃z∈fan.take s.1.toNat,y=2*z) (fun s=>((fan.length:Int) - s.1).toNat) ⟨⟨by simp only;omega,by simp only;omega⟩,by simp,fun y=>by simp⟩ (fun s hs0=> ?_);obtain⟨j,nx⟩:=s;obtain⟨⟨j0,j1⟩,hnl,hny⟩:=hs0;simp only at j0 j1 hnl hny;dsimp only;refine Tot.dite (fun h2=> ?_) (fun h2=> ?_)
    ·refine Tot.gin j0 h2 (Tot.get j0 h2 fun y hy hym=> ?_);have hyr:=((hfan.2 y).1 hym).lt h;rw[wrap_ok (z:=2*y) (by omega),wrap_ok (z:=j+1) (by omega)];refine Tot.app (by simp only[List.length_singleton];omega) (by omega) ?_
     refine Tot.next ⟨⟨⟨by simp only;omega,by simp only;omega⟩,by simp only[List.length_append,List.length_singleton];omega,fun z=> ?_⟩,by simp only;omega⟩;simp only;rw[takec j0 h2,<-hy,List.mem_append,List.mem_singleton,hny]
     constructor
     ·rintro(⟨w,hw,rfl⟩ | rfl)
      ·exact⟨w,List.mem_append_left _ hw,rfl⟩
      ·exact⟨y,by simp,rfl⟩
     ·rintro⟨w,hw,rfl⟩
      rcases List.mem_append.1 hw with hw | hw
      ·exact .inl ⟨w,hw,rfl⟩
      ·rw[List.mem_singleton.1 hw];exact .inr rfl
    ·refine Tot.exit ?_
     rw[show j.toNat=fan.length by omega,List.take_length]at hny;have hfd:∀z∈fan,Ed n U S ab x2 (2*z):=fun z hz=> .down _ _ (x2/2) z ex rfl ((hfan.2 z).1 hz)
     refine Tot.get hk.1 (by omega) fun sk hsk _=> ?_
     change sk=bI S (x2/2)at hsk
     refine Tot.ite (fun hst=> ?_) (fun hsf=> ?_)
     ·rw[wrap_ok (z:=2*(x2/2)) (by omega)];refine Tot.app (by simp only[List.length_singleton];omega) (by omega) ?_
      refine Tot.next ⟨by simp only[List.length_append,List.length_singleton];omega,fun z=> ?_,hod2⟩;rw[List.mem_append,List.mem_singleton,hny]
      constructor
      ·rintro(⟨w,hw,rfl⟩ | rfl)
       ·exact hfd w hw
       ·exact .undo _ _ (x2/2) ex rfl ⟨by omega,hk.2⟩ (by rw[<-hsk];exact hst)
      ·intro he;rcases ed3 z he with q | q
       ·exact .inl q
       ·exact .inr q.1
     ·refine Tot.next ⟨by omega,fun z=> ?_,hod2⟩;rw[hny]
      constructor
      ·rintro⟨w,hw,rfl⟩
       exact hfd w hw
      ·intro he;rcases ed3 z he with q | q
       ·exact q
       ·rw[<-hsk,hsf]at q;cases q.2
 ·refine Tot.lp (fun s=>(0<=s.1/\s.1<=(nx.length:Int))/\SJ n U S ab P M s.2.1 s.2.2/\c<(s.2.2.length:Int)/\(s.2.2.getD c.toNat 0=x/\s.2.2.take c.toNat=q2.take c.toNat)/\(∀y,0<=y->nI b2 y≠-2->nI s.2.1 y≠-2)/\∀y∈nx.take s.1.toNat,nI s.2.1 y≠-2) (fun s=>((nx.length:Int) - s.1).toNat) ⟨⟨by simp only;omega,by simp only;omega⟩,hsj2,h1,⟨hx.symm,rfl⟩,fun _ _ hy=>hy,fun y hy=>by simp at hy⟩ (fun s hs0=> ?_);obtain⟨j,b3,q3⟩:=s;obtain⟨⟨j0,j1⟩,hsj3,hcq,⟨hqc,hqt⟩,hmn,hnn⟩:=hs0;simp only at j0 j1 hsj3 hcq hqc hqt hmn hnn;have hql3:=hsj3.si.qlen;have hbl3:=hsj3.si.len;have hnx1:=hnx.1;dsimp only;refine Tot.dite (fun h2=> ?_) (fun h2=> ?_)
  ·rw[wrap_ok (z:=j+1) (by omega)];refine Tot.gin j0 h2 (Tot.get j0 h2 fun y hy hym=> ?_);have hed:=(hnx.2.1 y).1 hym;have hyr:=hed.rng h ha;refine Tot.gin (by omega) (by omega) (Tot.get (by omega) (by omega) fun w hw _=> ?_)
   change w=nI b3 y at hw
   refine Tot.dite (fun hw2=> ?_) (fun hw2=> ?_)
   ·refine Tot.gin j0 h2 (Tot.get j0 h2 fun y2 hy2 _=> ?_);have e:y2=y:=by rw[hy,hy2]
    subst e;refine Tot.gin c0 hcq (Tot.get c0 hcq fun x4 hx4 hx4m=> ?_);have e:x4=x:=by rw[hx4,hqc]
    subst e;refine Tot.gin (by omega) (by omega) (Tot.get (by omega) (by omega) fun _ _ _=> ?_);refine Tot.gin j0 h2 (Tot.get j0 h2 fun y3 hy3 _=> ?_);have e:y3=y2:=by rw[hy,hy3]
    subst e;refine Tot.app (by simp only[List.length_singleton];omega) (by omega) ?_
    obtain⟨p1,p2,p3⟩:=hsj3.push (x:=y3) (v:=x4) (by omega) (by rw[<-hw];exact hw2) (.inr hx4m) hed (hP _ _ hed (.inr (hsj3.pp x4 hx4m)));refine Tot.next ⟨⟨⟨by simp only;omega,by simp only;omega⟩,p1,by simp only[List.length_append,List.length_singleton];omega,⟨?_,?_⟩,fun z z0 hz=>p2 z z0 (hmn z z0 hz),fun z hz=> ?_⟩,by simp only;omega⟩
    ·simp only;rw[List.getD,List.getElem?_append_left (by omega)];exact hqc
    ·simp only;rw[List.take_append_of_le_length (by omega)];exact hqt
    ·simp only at hz ⊢;rw[takec j0 h2,<-hy]at hz;rcases List.mem_append.1 hz with q | q
     ·exact p2 z (((hnx.2.1 z).1 (List.mem_of_mem_take q)).rng h ha).1 (hnn z q)
     ·rw[List.mem_singleton.1 q];exact p3
   ·refine Tot.next ⟨⟨⟨by simp only;omega,by simp only;omega⟩,hsj3,hcq,⟨hqc,hqt⟩,hmn,fun z hz=> ?_⟩,by simp only;omega⟩;simp only at hz ⊢;rw[takec j0 h2,<-hy]at hz;rcases List.mem_append.1 hz with q | q
    ·exact hnn z q
    ·rw[List.mem_singleton.1 q,<-hw];exact hw2
  ·refine Tot.exit ?_
   rw[wrap_ok (z:=c+1) (by omega)];rw[show j.toNat=nx.length by omega,List.take_length]at hnn;refine Tot.next ⟨⟨⟨by simp only;omega,by simp only;omega⟩,hsj3,fun k' x k'0 k'1 u1 u2 u3=>hmn _ (by have:=(u2.lt h).1;omega) (hrt2 k' x k'0 k'1 u1 u2 u3),fun t ht=> ?_⟩,by simp only;omega⟩;simp only at ht ⊢;rw[takec c0 hcq,hqc,hqt]at ht;rcases List.mem_append.1 ht with q | q
   ·exact⟨fun z hz=>hmn z (hz.rng h ha).1 ((hcl t q).1 z hz),(hcl t q).2⟩
   ·rw[List.mem_singleton.1 q];exact⟨fun z hz=>hnn z ((hnx.2.1 z).2 hz),hnx.2.2⟩
end Go.Pf
/-
  Own work. Logic elements, plainly: when they are well formed, their output, their inputs.
-/
namespace Go.Pf
open Go Go.Pu
set_option linter.unusedVariables false
abbrev Le:=Int×Int
def leOk (n:Net)(e:Le):Prop:=
 ((-1<=e.1/\e.1<=(n.2.2.1.length:Int) - 1)/\(-1<=e.2/\e.2<=(n.2.1.length:Int) - 1)/\¬(e.1<0/\e.2<0))/\
 (0<=e.2->(sqAt n.2.1 e.2.toNat).1=0)/\(0<=e.1->0<=e.2->nsAt (sqAt n.2.1 e.2.toNat).2.2 0=fstP n+e.1/\nsAt (usesP n) (fstP n+e.1).toNat=1)
instance (n:Net)(e:Le):Decidable (leOk n e):=by unfold leOk;exact inferInstance
theorem le_impl {n:Net}(hb:NetB n)(h:netP n=true)(e:Le):impl_leOk (n,e)=some (decide (leOk n e)):=by
 obtain⟨hl,ho,hs,ht⟩:=netP_all h;have hv:=lnV_le hl;have hul:=usesP_len n;have hl2:=hl.2.1;have hl3:=hl.2.2.1;obtain⟨l,s⟩:=e;unfold impl_leOk
 try dsimp only
 rw[wrap_ok (z:=(n.2.2.1.length:Int) - 1) (by omega),wrap_ok (z:=(n.2.1.length:Int) - 1) (by omega),inR_impl,inR_impl];simp only[Option.bind_some];by_cases c1: -1<=l/\l<=(n.2.2.1.length:Int) - 1
 rotate_left
 ·rw[df c1,df (show ¬leOk n (l,s)from fun e=>c1 e.1.1)];rfl
 rw[dt c1,Bool.not_true,cond_false];by_cases c2: -1<=s/\s<=(n.2.1.length:Int) - 1
 rotate_left
 ·rw[df c2,df (show ¬leOk n (l,s)from fun e=>c2 e.1.2.1)];rfl
 rw[dt c2,Bool.not_true,cond_false];by_cases c3:s<0
 ·rw[dt (show s= -1 by omega),df (show ¬0<=s by omega)];by_cases c4:l<0
  ·rw[dt (show l= -1 by omega),df (show ¬leOk n (l,s)from fun e=>e.1.2.2 ⟨c4,c3⟩)];rfl
  ·rw[df (show ¬l= -1 by omega),dt (show 0<=l by omega),dt (show leOk n (l,s)from⟨⟨c1,c2,fun e=>c4 e.1⟩,fun e=>absurd e (by simp only;omega),fun _ e=>absurd e (by simp only;omega)⟩)];rfl
 ·obtain⟨m,rfl⟩:∃m:Nat,s=(m:Int):=⟨s.toNat,by omega⟩;have hm:m<n.2.1.length:=by omega
  obtain⟨g1,g2⟩:=sq_get hm;have hsm:=(hs m hm).1;rw[df (show ¬(m:Int)= -1 by omega),dt (show 0<=(m:Int)by omega),cond_true,g1];simp only[Option.bind_some];have pre:∀X:Option Bool,joinO ((bif decide (l= -1)then(bif false then(Option.map Sum.inr (some false))else some (.inl ()))else some (.inl ())):Option (Unit⊕Bool)) (fun _=>X)=X:=by
   intro X;cases decide (l= -1)<;>rfl
  rw[pre];by_cases c5:(sqAt n.2.1 m).1≠0
  ·rw[dt c5,df (show ¬leOk n (l,(m:Int))from fun e=>c5 (by have:=e.2.1 (by simp only;omega);simp only[Int.toNat_natCast]at this;exact this))];rfl
  have c5:(sqAt n.2.1 m).1=0:=Decidable.byContradiction c5;rw[df (fun e=>e c5),cond_false];by_cases c6:l<0
  ·rw[df (show ¬0<=l by omega),dt (show leOk n (l,(m:Int))from⟨⟨c1,c2,fun e=>c3 e.2⟩,fun _=>by simp only[Int.toNat_natCast];exact c5,fun e=>absurd e (by simp only;omega)⟩)];rfl
  rw[dt (show 0<=l by omega),cond_true,cond_true,fst_impl hl];have hlen:(sqAt n.2.1 m).2.2.length=1:=by rcases hsm with q | q<;>omega
  have g0:gget 0 (sqAt n.2.1 m).2.2 0=some (nsAt (sqAt n.2.1 m).2.2 0):=nsAt_get (show 0<(sqAt n.2.1 m).2.2.length by omega);simp only[Option.bind_some];rw[g0,wrap_ok (z:=fstP n+l) (by omega)];simp only[Option.bind_some];by_cases c7:nsAt (sqAt n.2.1 m).2.2 0=fstP n+l
  ·have hfl:fstP n+l<lnV n:=by unfold lnV;omega
   rw[dt c7,cond_true,uses_impl hb h];simp only[Option.bind_some];rw[gin_some (by omega) (by omega),gget_ns (by omega) (by omega)];simp only[Option.bind_some]
   congr 1
   rw[decide_eq_decide];exact⟨fun e=>⟨⟨c1,c2,fun q=>c3 q.2⟩,fun _=>by simp only[Int.toNat_natCast];exact c5,fun _ _=>by simp only[Int.toNat_natCast];exact⟨c7,e⟩⟩,fun e=>(e.2.2 (by simp only;omega) (by simp only;omega)).2⟩
  ·rw[df c7,df (show ¬leOk n (l,(m:Int))from fun e=>c7 (by have:=(e.2.2 (by simp only;omega) (by simp only;omega)).1;simp only[Int.toNat_natCast]at this;exact this))];rfl
def lokP (n:Net)(e:Le):Bool:=netP n && decide (leOk n e)
theorem lok_impl (n:Net)(e:Le)(hb:NetB n):impl_LeOk (n,e)=some (lokP n e):=by
 unfold impl_LeOk lokP;rw[net_impl n hb];simp only[Option.bind_some];cases h:netP n with
 | false=>rfl
 | true=>rw[cond_true,le_impl hb h];rfl
def outLe (n:Net)(e:Le):Int:=if 0<=e.2 then 1+n.1+e.2 else fstP n+e.1
theorem outLe_r {n:Net}(hl:lnOk n){e:Le}(h:leOk n e):1<=outLe n e/\outLe n e<lnV n:=by
 obtain⟨⟨h1,h2,h3⟩,_⟩:=h;have h0:=hl.1;unfold outLe lnV fstP;split<;>omega
theorem out_spec {n:Net}(hl:lnOk n){e:Le}(h:leOk n e):spec_l28Out (n,e)=some (outLe n e):=by
 obtain⟨⟨h1,h2,h3⟩,_⟩:=h;have h0:=hl.1;have hl2:=hl.2.1;have hl3:=hl.2.2.1;have hv:=lnV_le hl;unfold spec_l28Out outLe
 try dsimp only
 by_cases c:0<=e.2
 ·rw[dt c,cond_true,if_pos c,wrap_ok (z:=1+n.1) (by omega),wrap_ok (by omega)]
 ·rw[df c,cond_false,if_neg c,fst_spec hl];simp only[Option.bind_some];rw[wrap_ok (by omega)]
theorem out_impl {n:Net}(hl:lnOk n){e:Le}(h:leOk n e):impl_leOutput (n,e)=some (outLe n e):=out_spec hl h
def lout (n:Net)(e:Le):Int:=if lokP n e=true then outLe n e else -1
theorem lout_impl (n:Net)(e:Le)(hb:NetB n):impl_LeOutput (n,e)=some (lout n e):=by
 unfold impl_LeOutput lout;rw[lok_impl n e hb];simp only[Option.bind_some];cases h:lokP n e with
 | false=>rfl
 | true=>
  unfold lokP at h;rw[Bool.and_eq_true]at h;rw[Bool.not_true,cond_false,out_impl (netP_all h.1).1 (of_decide_eq_true h.2)];rfl
def setP (xs ex:List Int):List Int:=insL [] (xs.filter fun x=>decide (0<x/\x∉ex))
theorem setP_mem {xs ex:List Int}{y:Int}:y∈setP xs ex↔y∈xs/\0<y/\y∉ex:=by
 unfold setP;rw[mem_insL,List.mem_filter];simp
theorem setP_len (xs ex:List Int):(setP xs ex).length<=xs.length:=by
 have h1:=insL_len [] (xs.filter fun x=>decide (0<x/\x∉ex));have h2:=List.length_filter_le (fun x=>decide (0<x/\x∉ex)) xs;unfold setP;simp only[List.length_nil]at h1;omega
theorem set28_spec (xs ex:List Int)(hl:xs.length<=100000000)(hex:ex.length<=100000000):spec_l28Set (xs,ex)=some (setP xs ex):=by
 obtain⟨o,s1,s2,s3⟩:=sort_spec xs (by omega);have hol:=s2.length_eq;unfold spec_l28Set;rw[s1];simp only[Option.bind_some];have key:∀X:Option (List Int),(∃r,X=some r/\(Asc r/\∀y,y∈r↔y∈o/\0<y/\y∉ex))->X=some (setP xs ex):=by
  rintro X ⟨r,h1,h2,h3⟩
  rw[h1]
  congr 1
  have hs:Asc (setP xs ex):=asc_insL asc_nil;exact asc_ext h2 hs (fun y=>by rw[h3,setP_mem,s2.mem_iff])
 refine key _ ?_
 refine loop_spec (fun s:Int×List Int=>(0<=s.1/\s.1<=(o.length:Int))/\Asc s.2/\(s.2.length:Int)<=s.1/\∀y,y∈s.2↔y∈o.take s.1.toNat/\0<y/\y∉ex) _ (fun s=>(o.length - s.1).toNat) (fun s hI=> ?_) (0,[]) ⟨⟨by simp,by simp⟩,asc_nil,by simp,fun y=>by simp⟩;obtain⟨i,acc⟩:=s;obtain⟨⟨i0,i1⟩,hA,hAl,hm⟩:=hI;simp only at i0 i1 hA hAl hm
 try dsimp only
 by_cases hi:i<(o.length:Int)
 rotate_left
 ·right
  rw[df hi,cond_false];refine⟨acc,rfl,hA,fun y=> ?_⟩;rw[hm,List.take_of_length_le (by omega)]
 left
 obtain⟨k,rfl⟩:∃k:Nat,i=(k:Int):=⟨i.toNat,by omega⟩;have hk:k<o.length:=by omega
 have hsucc:((k:Int)+1).toNat=k+1:=by omega
 rw[Int.toNat_natCast]at hm;rw[dt hi,cond_true,gin_nat hk,nsAt_get hk,wrap_ok (z:=(k:Int)+1) (by omega)];simp only[Option.bind_some];have hle:∀y∈o.take k,y<=nsAt o k:=by
  intro y hy;obtain⟨j,hj,rfl⟩:=List.getElem_of_mem hy;rw[List.length_take]at hj;rw[List.getElem_take,<-ns_at hk];exact List.pairwise_iff_getElem.1 s3 j k (by omega) hk (by omega)
 generalize hv:nsAt o k=v at*;have skip:¬(0<v/\v∉ex)->∀y,y∈acc↔y∈o.take (k+1)/\0<y/\y∉ex:=by
  intro hno y;rw[hm,take_at hk,hv,List.mem_append,List.mem_singleton]
  constructor
  ·rintro⟨q1,q2⟩;exact⟨Or.inl q1,q2⟩
  ·rintro⟨q1 | q1,q2⟩
   ·exact⟨q1,q2⟩
   ·subst q1;exact absurd q2 hno
 by_cases c1:0<v
 rotate_left
 ·rw[df c1,cond_false];exact⟨_,rfl,⟨⟨by simp only;omega,by simp only;omega⟩,hA,by simp only;omega,by simp only;rw[hsucc];exact skip (fun e=>c1 e.1)⟩,by simp only;omega⟩
 rw[dt c1,cond_true,has_spec _ _ (by omega)];simp only[Option.bind_some];by_cases c2:v∈ex
 ·rw[dt c2,Bool.not_true,cond_false];exact⟨_,rfl,⟨⟨by simp only;omega,by simp only;omega⟩,hA,by simp only;omega,by simp only;rw[hsucc];exact skip (fun e=>e.2 c2)⟩,by simp only;omega⟩
 rw[df c2,Bool.not_false,cond_true];have add:(∀y∈acc,y<v)->Asc (acc++[v])/\∀y,y∈acc++[v]↔y∈o.take (k+1)/\0<y/\y∉ex:=by
  intro hlt;refine⟨?_,fun y=> ?_⟩
  ·unfold Asc;rw[List.pairwise_append];exact⟨hA,by simp,fun x hx y hy=>by rw[List.mem_singleton.1 hy];exact hlt x hx⟩
  ·rw[take_at hk,hv,List.mem_append,List.mem_append,hm,List.mem_singleton]
   constructor
   ·rintro(⟨q1,q2⟩ | q)
    ·exact⟨Or.inl q1,q2⟩
    ·subst q;exact⟨Or.inr rfl,c1,c2⟩
   ·rintro⟨q1 | q1,q2⟩
    ·exact Or.inl ⟨q1,q2⟩
    ·exact Or.inr q1
 by_cases c3:(acc.length:Int)=0
 ·have hnil:acc=[]:=List.length_eq_zero_iff.1 (by omega);obtain⟨a1,a2⟩:=add (by rw[hnil];simp);rw[dt c3,cond_true,gapp_ok (by simp;omega)];simp only[Option.bind_some];exact⟨_,rfl,⟨⟨by simp only;omega,by simp only;omega⟩,a1,by simp only[List.length_append,List.length_cons,List.length_nil];omega,by simp only;rw[hsucc];exact a2⟩,by simp only;omega⟩
 rw[df c3,cond_false,wrap_ok (z:=(acc.length:Int) - 1) (by omega)];have el:(acc.length:Int) - 1=((acc.length - 1:Nat):Int):=by omega
 have hlast:acc.length - 1<acc.length:=by omega
 rw[el,gin_nat hlast,nsAt_get hlast];simp only[Option.bind_some];have hmax:∀y∈acc,y<=nsAt acc (acc.length - 1):=by
  intro y hy;obtain⟨j,hj,rfl⟩:=List.getElem_of_mem hy;rw[<-ns_at hlast];by_cases q:j=acc.length - 1
  ·subst q;exact Int.le_refl _
  ·exact Int.le_of_lt (List.pairwise_iff_getElem.1 hA j (acc.length - 1) hj hlast (by omega))
 have hlm:nsAt acc (acc.length - 1)∈acc:=by rw[<-ns_at hlast];exact List.getElem_mem hlast
 have hlv:=hle _ ((hm _).1 hlm).1;by_cases c4:nsAt acc (acc.length - 1)≠v
 ·obtain⟨a1,a2⟩:=add (fun y hy=>by have:=hmax y hy;omega);rw[dt c4,cond_true,gapp_ok (by simp;omega)];simp only[Option.bind_some];exact⟨_,rfl,⟨⟨by simp only;omega,by simp only;omega⟩,a1,by simp only[List.length_append,List.length_cons,List.length_nil];omega,by simp only;rw[hsucc];exact a2⟩,by simp only;omega⟩
 ·have c4:nsAt acc (acc.length - 1)=v:=Decidable.byContradiction c4;rw[df (fun e=>e c4),cond_false];refine⟨_,rfl,⟨⟨by simp only;omega,by simp only;omega⟩,hA,by simp only;omega,fun y=> ?_⟩,by simp only;omega⟩;simp only;rw[hsucc,take_at hk,hv,List.mem_append,List.mem_singleton,hm]
  constructor
  ·rintro⟨q1,q2⟩;exact⟨Or.inl q1,q2⟩
  ·rintro⟨q1 | q1,q2⟩
   ·exact⟨q1,q2⟩
   ·subst q1;rw[c4]at hlm;exact(hm _).1 hlm
def insX (n:Net)(e:Le):List Int:=if 0<=e.1 then(ltAt n.2.2.1 e.1.toNat).1 else(sqAt n.2.1 e.2.toNat).2.2
def insLe (n:Net)(e:Le):List Int:=setP (insX n e) []
theorem insX_ok {n:Net}(h:netP n=true){e:Le}(he:leOk n e):(insX n e).length<=4/\∀x∈insX n e,0<=x/\x<lnV n:=by
 obtain⟨hl,ho,hs,ht⟩:=netP_all h;obtain⟨⟨h1,h2,h3⟩,_⟩:=he;unfold insX;by_cases c:0<=e.1
 ·rw[if_pos c];have hk:e.1.toNat<n.2.2.1.length:=by omega
  obtain⟨t1,t2⟩:=ht _ hk;have t3:=t1.1;refine⟨by omega,fun x hx=> ?_⟩;have:=belowP_mem t2 x hx;unfold lnV;omega
 ·rw[if_neg c];have hk:e.2.toNat<n.2.1.length:=by omega
  obtain⟨t1,t2⟩:=hs _ hk;refine⟨by rcases t1 with q | q<;>omega,belowP_mem t2⟩
theorem insLe_len {n:Net}(h:netP n=true){e:Le}(he:leOk n e):(insLe n e).length<=4:=by
 have h1:=(insX_ok h he).1;have h2:=setP_len (insX n e) [];unfold insLe;omega
theorem ins_spec {n:Net}(h:netP n=true){e:Le}(he:leOk n e):spec_l28Ins (n,e)=some (insLe n e):=by
 have hx:=(insX_ok h he).1;have he' :=he;obtain⟨⟨h1,h2,h3⟩,_⟩:=he';unfold spec_l28Ins insLe;unfold insX at*
 try dsimp only
 by_cases c:0<=e.1
 ·rw[if_pos c]at hx ⊢;have hk:e.1.toNat<n.2.2.1.length:=by omega
  obtain⟨g1,g2⟩:=lt_get hk;have e1:((e.1.toNat:Nat):Int)=e.1:=by omega
  rw[e1]at g1;rw[dt c,cond_true,g1];simp only[Option.bind_some];rw[set28_spec _ _ (by omega) (by simp)];rfl
 ·rw[if_neg c]at hx ⊢;have hk:e.2.toNat<n.2.1.length:=by omega
  obtain⟨g1,g2⟩:=sq_get hk;have e1:((e.2.toNat:Nat):Int)=e.2:=by omega
  rw[e1]at g1;rw[df c,cond_false,g1];simp only[Option.bind_some];rw[set28_spec _ _ (by omega) (by simp)];rfl
theorem filt_insL (xs:List Int)(hx:∀x∈xs,0<=x):insL [] (xs.filter fun x=>decide (x≠0))=setP xs []:=by
 unfold setP
 congr 1
 apply List.filter_congr;intro x hm;have:=hx x hm;rw[decide_eq_decide]
 constructor
 ·intro q;exact⟨by omega,by simp⟩
 ·intro q;omega
theorem ins_impl {n:Net}(h:netP n=true){e:Le}(he:leOk n e):impl_leInputs (n,e)=some (insLe n e):=by
 obtain⟨hx,hxr⟩:=insX_ok h he;have he' :=he;obtain⟨⟨h1,h2,h3⟩,_⟩:=he';unfold impl_leInputs insLe;have hj:(bif decide (0<=e.1)then(
  (gget (([],0):Lut) n.2.2.1 e.1).bind fun v2=>
  some (.inl v2.1))else
  (gget ((0,(0,[])):Seq) n.2.1 e.2).bind fun v2=>
  some ((.inl v2.2.2):List Int⊕List Int))=some (.inl (insX n e)):=by
  unfold insX;by_cases c:0<=e.1
  ·have hk:e.1.toNat<n.2.2.1.length:=by omega
   obtain⟨g1,g2⟩:=lt_get hk;have e1:((e.1.toNat:Nat):Int)=e.1:=by omega
   rw[e1]at g1;rw[dt c,cond_true,g1,if_pos c];rfl
  ·have hk:e.2.toNat<n.2.1.length:=by omega
   obtain⟨g1,g2⟩:=sq_get hk;have e1:((e.2.toNat:Nat):Int)=e.2:=by omega
   rw[e1]at g1;rw[df c,cond_false,g1,if_neg c];rfl
 try dsimp only
 rw[hj,joinO_inl,<-filt_insL _ (fun x hm=>(hxr x hm).1)];generalize insX n e=xs at*
 try dsimp only
 refine loop_upto xs.length (fun k=>(insL [] ((xs.take k).filter fun x=>decide (x≠0)),(k:Int))) (fun k hk=> ?_) ?_
 ·have hil:=insL_len [] ((xs.take k).filter fun x=>decide (x≠0));have hfl:=List.length_filter_le (fun x=>decide (x≠0)) (xs.take k);rw[List.length_take]at hfl;simp only[List.length_nil]at hil
  try dsimp only
  rw[dt (show(k:Int)<(xs.length:Int)by omega),cond_true,nsAt_get hk];simp only[Option.bind_some];rw[take_at hk,List.filter_append,insL_app,wrap_ok (by omega)];by_cases c:nsAt xs k≠0
  ·rw[dt c,cond_true,insert_impl _ _ (by omega)];simp only[Option.bind_some];have ef:[nsAt xs k].filter (fun x=>decide (x≠0))=[nsAt xs k]:=by simp[c]
   rw[ef,insL_one];rfl
  ·have c:nsAt xs k=0:=Decidable.byContradiction c;rw[df (fun e=>e c),cond_false];have ef:[nsAt xs k].filter (fun x=>decide (x≠0))=[]:=by simp[c]
   rw[ef,insL_nil];rfl
 ·try dsimp only
  rw[df (by omega),cond_false,List.take_of_length_le (Nat.le_refl _)];rfl
def lins (n:Net)(e:Le):List Int:=if lokP n e=true then insLe n e else []
theorem lins_impl (n:Net)(e:Le)(hb:NetB n):impl_LeInputs (n,e)=some (lins n e):=by
 unfold impl_LeInputs lins;rw[lok_impl n e hb];simp only[Option.bind_some];cases h:lokP n e with
 | false=>rfl
 | true=>
  unfold lokP at h;rw[Bool.and_eq_true]at h;rw[Bool.not_true,cond_false,ins_impl h.1 (of_decide_eq_true h.2)];rfl
theorem lins_len (n:Net)(e:Le):(lins n e).length<=4:=by
 unfold lins;split
 ·rename_i h;unfold lokP at h;rw[Bool.and_eq_true]at h;exact insLe_len h.1 (of_decide_eq_true h.2)
 ·simp
end Go.Pf
/-
  Own work. Blocks, plainly: items that exist, their outputs, their pins.
-/
namespace Go.Pf
open Go Go.Pu
set_option linter.unusedVariables false
abbrev Blk:=Int×(Int×List Le)
theorem asc_nodup {xs:List Int}(h:Asc xs):xs.Nodup:=h.imp (fun q e=>by omega)
def leAt (ls:List Le)(k:Nat):Le:=ls.getD k (0,0)
theorem le_get {ls:List Le}{k:Nat}(h:k<ls.length):gget ((0,0):Le) ls (k:Int)=some (leAt ls k):=by
 unfold leAt;rw[gget_nat h,List.getD,List.getElem?_eq_getElem h];rfl
theorem le_eq {ls:List Le}{k:Nat}(h:k<ls.length):ls[k]=leAt ls k:=by
 unfold leAt;rw[List.getD,List.getElem?_eq_getElem h];rfl
def lesP (n:Net)(ls:List Le):Bool:=ls.all fun e=>decide (leOk n e)
theorem lesP_at {n:Net}{ls:List Le}(h:lesP n ls=true){k:Nat}(hk:k<ls.length):leOk n (leAt ls k):=by
 rw[<-le_eq hk];exact of_decide_eq_true (List.all_eq_true.1 h _ (List.getElem_mem hk))
theorem les_eq (n:Net)(ls:List Le):lesP n ls=if(List.range ls.length).all (fun k=>if hk:k<ls.length then decide (leOk n ls[k])else true)=true then true else false:=by
 rw[all_range_list ls (fun e=>decide (leOk n e)) _ (fun k hk=>by rw[dif_pos hk])];show lesP n ls=if lesP n ls=true then true else false
 cases lesP n ls<;>rfl
def itemP (n:Net)(b:Blk):Bool:=
 if b.1=0 then decide (0<=b.2.1/\b.2.1<n.1)else if b.1=1 then decide (0<=b.2.1/\b.2.1<(n.2.2.2.length:Int))else if b.1=2 then decide (0<=b.2.1/\b.2.1<(n.2.1.length:Int))else if b.1=3 then lesP n b.2.2 else false
theorem item_impl {n:Net}{b:Blk}(hb:NetB n)(h:netP n=true)(hl:b.2.2.length<=1048576):impl_itemExists (n,b)=some (itemP n b):=by
 obtain⟨hln,_⟩:=netP_all h;have h0:=hln.1;have h2:=hln.2.1;have h4:=hln.2.2.2;unfold impl_itemExists itemP
 try dsimp only
 by_cases k0:b.1=0
 ·rw[dt k0,cond_true,if_pos k0,wrap_ok (z:=n.1 - 1) (by omega),inR_impl];simp only[Option.bind_some]
  congr 1
  rw[decide_eq_decide];omega
 rw[df k0,cond_false,if_neg k0];by_cases k1:b.1=1
 ·rw[dt k1,cond_true,if_pos k1,wrap_ok (z:=(n.2.2.2.length:Int) - 1) (by omega),inR_impl];simp only[Option.bind_some]
  congr 1
  rw[decide_eq_decide];omega
 rw[df k1,cond_false,if_neg k1];by_cases k2:b.1=2
 ·rw[dt k2,cond_true,if_pos k2,wrap_ok (z:=(n.2.1.length:Int) - 1) (by omega),inR_impl];simp only[Option.bind_some]
  congr 1
  rw[decide_eq_decide];omega
 rw[df k2,cond_false,if_neg k2];by_cases k3:b.1=3
 rotate_left
 ·rw[df k3,cond_false,if_neg k3]
 rw[dt k3,cond_true,if_pos k3,les_eq];refine loop_all b.2.2.length (fun k=>(k:Int)) _ false true (fun k hk hok=> ?_) (fun k hk hok=> ?_) ?_
 ·rw[dif_pos hk]at hok;rw[le_eq hk]at hok
  try dsimp only
  rw[dt (show(k:Int)<(b.2.2.length:Int)by omega),cond_true,le_get hk];simp only[Option.bind_some];rw[le_impl hb h];simp only[Option.bind_some];rw[hok,Bool.not_true,cond_false,wrap_ok (by omega)];rfl
 ·rw[dif_pos hk]at hok;rw[le_eq hk]at hok
  try dsimp only
  rw[dt (show(k:Int)<(b.2.2.length:Int)by omega),cond_true,le_get hk];simp only[Option.bind_some];rw[le_impl hb h];simp only[Option.bind_some];rw[hok];rfl
 ·try dsimp only
  rw[df (by omega),cond_false];rfl
def outsL (n:Net)(ls:List Le)(k:Nat):List Int:=(ls.take k).map (outLe n)
theorem le_take {ls:List Le}{k:Nat}(h:k<ls.length):ls.take (k+1)=ls.take k++[leAt ls k]:=by rw[take_succ' ls k h,le_eq h]
theorem outsL_succ (n:Net){ls:List Le}{k:Nat}(h:k<ls.length):outsL n ls (k+1)=outsL n ls k++[outLe n (leAt ls k)]:=by
 unfold outsL;rw[le_take h,List.map_append];rfl
theorem outsL_len (n:Net)(ls:List Le)(k:Nat):(outsL n ls k).length<=k:=by unfold outsL;simp;omega
def outN (n:Net)(b:Blk):List Int:=if b.1=0 then [1+b.2.1]else if b.1=1 then []else if b.1=2 then [1+n.1+b.2.1]else outsL n b.2.2 b.2.2.length
theorem item3 {n:Net}{b:Blk}(h:itemP n b=true)(k0:¬b.1=0)(k1:¬b.1=1)(k2:¬b.1=2):b.1=3/\lesP n b.2.2=true:=by
 unfold itemP at h;rw[if_neg k0,if_neg k1,if_neg k2]at h;split at h
 ·rename_i q;exact⟨q,h⟩
 ·simp at h
def insA (n:Net)(ls:List Le):Nat->List Int
 | 0=>[]
 | k+1=>insA n ls k++insLe n (leAt ls k)
theorem insA_len {n:Net}(h:netP n=true){ls:List Le}(hls:lesP n ls=true)(k:Nat)(hk:k<=ls.length):(insA n ls k).length<=4*k:=by
 induction k with
 | zero=>simp[insA]
 | succ k ih=>
  have h1:=insLe_len h (lesP_at hls (show k<ls.length by omega));have h2:=ih (by omega);show(insA n ls k++insLe n (leAt ls k)).length<=_;rw[List.length_append];omega
theorem insA_mem {n:Net}(h:netP n=true){ls:List Le}(hls:lesP n ls=true)(k:Nat)(hk:k<=ls.length):∀x∈insA n ls k,0<x/\x<lnV n:=by
 induction k with
 | zero=>simp[insA]
 | succ k ih=>
  intro x hx;rcases List.mem_append.1 hx with q | q
  ·exact ih (by omega) x q
  ·have h1:=setP_mem.1 q;have h2:=(insX_ok h (lesP_at hls (show k<ls.length by omega))).2 x h1.1;omega
def pinsP (n:Net)(ls:List Le):List Int:=setP (insA n ls ls.length) (outsL n ls ls.length)
theorem pins_spec {n:Net}(hb:NetB n)(h:netP n=true){ls:List Le}(hls:lesP n ls=true)(hl:ls.length<=1048576):spec_l28Pins (n,ls)=some (pinsP n ls):=by
 obtain⟨hln,_⟩:=netP_all h;unfold spec_l28Pins;refine loop_upto ls.length (fun k=>((k:Int),(insA n ls k,outsL n ls k))) (fun k hk=> ?_) ?_
 ·have hol:=outsL_len n ls k;have hil:=insA_len h hls k (by omega);have h1:=insLe_len h (lesP_at hls hk)
  try dsimp only
  rw[dt (show(k:Int)<(ls.length:Int)by omega),cond_true,le_get hk];simp only[Option.bind_some];rw[ins_spec h (lesP_at hls hk)];simp only[Option.bind_some];rw[gapp_ok (by omega)];simp only[Option.bind_some];rw[out_spec hln (lesP_at hls hk)];simp only[Option.bind_some];rw[gapp_ok (by simp only[List.length_cons,List.length_nil];omega),<-outsL_succ n hk];simp only[Option.bind_some];rw[wrap_ok (by omega)];rfl
 ·have hol:=outsL_len n ls ls.length;have hil:=insA_len h hls ls.length (by omega)
  try dsimp only
  rw[df (by omega),cond_false,set28_spec _ _ (by omega) (by omega)];rfl
theorem pins3_impl {n:Net}{b:Blk}(hb:NetB n)(h:netP n=true)(hls:lesP n b.2.2=true)(hl:b.2.2.length<=1048576)(k3:b.1=3):impl_pinNodes (n,b)=some (pinsP n b.2.2):=by
 obtain⟨hln,_⟩:=netP_all h;unfold impl_pinNodes
 try dsimp only
 rw[df (show ¬b.1=0 by omega),cond_false,df (show ¬b.1=1 by omega),cond_false,df (show ¬b.1=2 by omega),cond_false];generalize b.2.2=ls at*;refine loop_upto ls.length (fun k=>(outsL n ls k,(k:Int))) (fun k hk=> ?_) ?_
 ·have hol:=outsL_len n ls k
  try dsimp only
  rw[dt (show(k:Int)<(ls.length:Int)by omega),cond_true,le_get hk];simp only[Option.bind_some];rw[out_impl hln (lesP_at hls hk)];simp only[Option.bind_some];rw[gapp_ok (by simp only[List.length_cons,List.length_nil];omega),<-outsL_succ n hk];simp only[Option.bind_some];rw[wrap_ok (by omega)];rfl
 try dsimp only
 rw[df (show ¬(ls.length:Int)<(ls.length:Int)by omega),cond_false];refine(Option.map_eq_some_iff).2 ⟨_,?_,rfl⟩;have hol:=outsL_len n ls ls.length;have conv:pinsP n ls=insL [] ((insA n ls ls.length).filter fun x=>decide (x∉outsL n ls ls.length)):=by
  unfold pinsP setP
  congr 1
  apply List.filter_congr;intro x hx;have:=insA_mem h hls _ (Nat.le_refl _) x hx;rw[decide_eq_decide];exact⟨fun q=>q.2,fun q=>⟨this.1,q⟩⟩
 rw[conv];generalize hO:outsL n ls ls.length=O at*;refine loop_upto ls.length (fun k=>(insL [] ((insA n ls k).filter fun x=>decide (x∉O)),(k:Int))) (fun k hk=> ?_) ?_
 ·have hil:=insA_len h hls k (by omega);have h1:=insLe_len h (lesP_at hls hk);have e1:insA n ls (k+1)=insA n ls k++insLe n (leAt ls k):=rfl
  try dsimp only
  rw[dt (show(k:Int)<(ls.length:Int)by omega),cond_true,le_get hk];simp only[Option.bind_some];rw[ins_impl h (lesP_at hls hk)];simp only[Option.bind_some];rw[e1];generalize insA n ls k=A at*;generalize insLe n (leAt ls k)=X at*;have e0:((0:Int),insL [] (A.filter fun x=>decide (x∉O)))=(fun j:Nat=>((j:Int),insL [] ((A++X.take j).filter fun x=>decide (x∉O)))) 0:=by simp
  rw[e0];refine loop_upto X.length (fun j=>((j:Int),insL [] ((A++X.take j).filter fun x=>decide (x∉O)))) (fun j hj=> ?_) ?_
  ·have hil2:=insL_len [] ((A++X.take j).filter fun x=>decide (x∉O));have hfl:=List.length_filter_le (fun x=>decide (x∉O)) (A++X.take j);rw[List.length_append,List.length_take]at hfl;simp only[List.length_nil]at hil2
   try dsimp only
   rw[dt (show(j:Int)<(X.length:Int)by omega),cond_true,gin_nat hj,nsAt_get hj];simp only[Option.bind_some];rw[has_impl _ _ (by omega),take_at hj,<-List.append_assoc,List.filter_append (A++X.take j),insL_app,wrap_ok (by omega)];simp only[Option.bind_some];by_cases c:nsAt X j∈O
   ·have ef:[nsAt X j].filter (fun x=>decide (x∉O))=[]:=by simp[c]
    rw[dt c,Bool.not_true,cond_false,ef,insL_nil];rfl
   ·have ef:[nsAt X j].filter (fun x=>decide (x∉O))=[nsAt X j]:=by simp[c]
    rw[df c,Bool.not_false,cond_true,insert_impl _ _ (by omega),ef,insL_one];rfl
  ·try dsimp only
   rw[df (by omega),cond_false,List.take_of_length_le (Nat.le_refl _),wrap_ok (by omega)];rfl
 ·try dsimp only
  rw[df (by omega),cond_false];rfl
def pinN (n:Net)(b:Blk):List Int:=if b.1=0 then []else if b.1=1 then [nsAt n.2.2.2 b.2.1.toNat]else if b.1=2 then(sqAt n.2.1 b.2.1.toNat).2.2 else pinsP n b.2.2
theorem pinN_impl {n:Net}{b:Blk}(hb:NetB n)(h:netP n=true)(hi:itemP n b=true)(hl:b.2.2.length<=1048576):impl_pinNodes (n,b)=some (pinN n b):=by
 by_cases k3:b.1=3
 ·have hls:=(item3 hi (by omega) (by omega) (by omega)).2;rw[pins3_impl hb h hls hl k3];unfold pinN;rw[if_neg (by omega),if_neg (by omega),if_neg (by omega)]
 unfold impl_pinNodes pinN;unfold itemP at hi
 try dsimp only
 by_cases k0:b.1=0
 ·rw[dt k0,if_pos k0];rfl
 rw[if_neg k0]at hi;rw[df k0,cond_false,if_neg k0];by_cases k1:b.1=1
 ·rw[if_pos k1]at hi;have hi:=of_decide_eq_true hi;rw[dt k1,cond_true,if_pos k1,gget_ns hi.1 hi.2];rfl
 rw[if_neg k1]at hi;rw[df k1,cond_false,if_neg k1];by_cases k2:b.1=2
 ·rw[if_pos k2]at hi;have hi:=of_decide_eq_true hi;have hk:b.2.1.toNat<n.2.1.length:=by omega
  obtain⟨g1,g2⟩:=sq_get hk;have e1:((b.2.1.toNat:Nat):Int)=b.2.1:=by omega
  rw[e1]at g1;have hlen:=hb.1.at g2;rw[dt k2,cond_true,if_pos k2,g1];simp only[Option.bind_some];unfold impl_copyInts;rw[gapp_ok (by simp;omega)];rfl
 ·rw[if_neg k2,if_neg k3]at hi;simp at hi
theorem pinNodes_impl (n:Net)(b:Blk)(hb:NetB n)(hl:b.2.2.length<=1048576):impl_PinNodes (n,b)=some (if(netP n && itemP n b)=true then pinN n b else []):=by
 unfold impl_PinNodes;rw[net_impl n hb];simp only[Option.bind_some];cases hn:netP n with
 | false=>rfl
 | true=>
  rw[Bool.not_true,cond_false,item_impl hb hn hl,Bool.true_and];simp only[Option.bind_some];cases hi:itemP n b with
  | false=>rfl
  | true=>
   rw[Bool.not_true,cond_false,if_pos rfl,pinN_impl hb hn hi hl];rfl
def blk0 (n:Net)(b:Blk):Bool:=
 if b.1=3 then decide (b.2.1=0/\(1<=b.2.2.length/\b.2.2.length<=2)/\(pinsP n b.2.2).length<=5)else decide (b.2.2.length=0/\(b.1=2->(sqAt n.2.1 b.2.1.toNat).1=1))
end Go.Pf
/-
  Own work. Packings, plainly: every item once.
-/
namespace Go.Pf
open Go Go.Pu
set_option linter.unusedVariables false
def BkB (b:Int)(x:Blk):Prop:=(x.2.2.length:Int)<=b
def BksB (bs:List Blk):Prop:=bs.length<=1048576/\∀b∈bs,BkB (1048576 - bs.length) b
theorem BksB.at {bs:List Blk}(h:BksB bs){b:Blk}(hb:b∈bs):b.2.2.length<=1048576:=by
 have:=h.2 b hb;unfold BkB at this;omega
def bkAt (bs:List Blk)(k:Nat):Blk:=bs.getD k (0,(0,[]))
theorem bk_get {bs:List Blk}{k:Nat}(h:k<bs.length):gget ((0,(0,[])):Blk) bs (k:Int)=some (bkAt bs k)/\bkAt bs k∈bs:=by
 have e:bkAt bs k=bs[k]:=by unfold bkAt;rw[List.getD,List.getElem?_eq_getElem h];rfl
 rw[e];exact⟨gget_nat h,List.getElem_mem h⟩
abbrev P4:=List Int×(List Int×(List Int×List Int))
def leT (s:List Int×List Int)(e:Le):List Int×List Int:=(if 0<=e.2 then inc1 s.1 e.2 else s.1,if 0<=e.1 then inc1 s.2 e.1 else s.2)
def leA (ls:List Le)(s:List Int×List Int)(j:Nat):List Int×List Int:=(ls.take j).foldl leT s
def kindT (b:Blk)(s:P4):List Int×(List Int×List Int):=if b.1=0 then(inc1 s.1 b.2.1,(s.2.1,s.2.2.1))else if b.1=1 then(s.1,(inc1 s.2.1 b.2.1,s.2.2.1))else if b.1=2 then(s.1,(s.2.1,inc1 s.2.2.1 b.2.1))else(s.1,(s.2.1,s.2.2.1))
def pkT (s:P4)(b:Blk):P4:=((kindT b s).1,((kindT b s).2.1,leA b.2.2 ((kindT b s).2.2,s.2.2.2) b.2.2.length))
def pk0 (n:Net):P4:=(List.replicate n.1.toNat 0,(List.replicate n.2.2.2.length 0,(List.replicate n.2.1.length 0,List.replicate n.2.2.1.length 0)))
def pkA (n:Net)(bs:List Blk)(k:Nat):P4:=(bs.take k).foldl pkT (pk0 n)
def once (xs:List Int):Bool:=xs.all fun x=>decide (x=1)
def once4 (s:P4):Bool:=once s.1 && (once s.2.1 && (once s.2.2.1 && once s.2.2.2))
def bkOk (n:Net)(b:Blk):Bool:=itemP n b && blk0 n b
def packP (n:Net)(bs:List Blk):Bool:=netP n && (decide (bs.length<=64) && (bs.all (bkOk n) && once4 (pkA n bs bs.length)))
def lesIn (n:Net)(ls:List Le):Prop:=∀j,j<ls.length->(leAt ls j).1<(n.2.2.1.length:Int)/\(leAt ls j).2<(n.2.1.length:Int)
theorem bk_les {n:Net}{b:Blk}(h:bkOk n b=true):lesIn n b.2.2:=by
 unfold bkOk at h;rw[Bool.and_eq_true]at h;obtain⟨h1,h2⟩:=h;intro j hj;by_cases k3:b.1=3
 ·have:=(lesP_at (item3 h1 (by omega) (by omega) (by omega)).2 hj).1;omega
 ·unfold blk0 at h2;rw[if_neg k3]at h2;have:=of_decide_eq_true h2;omega
theorem bk_item {n:Net}{b:Blk}(h:bkOk n b=true):(b.1=0->0<=b.2.1/\b.2.1<n.1)/\(b.1=1->0<=b.2.1/\b.2.1<(n.2.2.2.length:Int))/\(b.1=2->0<=b.2.1/\b.2.1<(n.2.1.length:Int)):=by
 unfold bkOk at h;rw[Bool.and_eq_true]at h;have h1:=h.1;unfold itemP at h1;refine⟨fun e=> ?_,fun e=> ?_,fun e=> ?_⟩
 ·rw[if_pos e]at h1;exact of_decide_eq_true h1
 ·rw[if_neg (by omega),if_pos e]at h1;exact of_decide_eq_true h1
 ·rw[if_neg (by omega),if_neg (by omega),if_pos e]at h1;exact of_decide_eq_true h1
theorem join_in {α β:Type}(a:α)(k:α->Option β):joinO (some (.inl a)) k=k a:=rfl
end Go.Pf
/-
  Own work. The laws' marks in lists of connections and of blocks: what is marked is held.
-/
namespace Go.Pf
open Go Go.Pu
set_option linter.unusedVariables false
end Go.Pf
/-
  Own work. The laws' helpers for lists of connections: sizes within the budget, marks.
-/
namespace Go.Pf
open Go Go.Pu
set_option linter.unusedVariables false
def CnB (b:Int)(c:Conn):Prop:=(c.2.2.length:Int)<=b
def CnsB (cs:List Conn):Prop:=cs.length<=1048576/\∀c∈cs,CnB (1048576 - cs.length) c
theorem CnsB.ok {cs:List Conn}(h:CnsB cs):CnsOk cs:=⟨h.1,fun c hc=>by
 have:=h.2 c hc;unfold CnB at this;unfold CnOk;omega⟩
end Go.Pf
/-
  Own work. The connections of a packing, plainly.
-/
namespace Go.Pf
open Go Go.Pu
set_option linter.unusedVariables false
theorem mapS {α β:Type}{X:Option β}{o:β}(h:X=some o):Option.map (Sum.inr:β->α⊕β) X=some (.inr o):=by rw[h];rfl
end Go.Pf
/-
  Own work. Packing, plainly.
-/
namespace Go.Pf
open Go Go.Pu
set_option linter.unusedVariables false
def elT (n:Net):Nat->List Le×List Bool
 | 0=>([],List.replicate n.2.2.1.length false)
 | k+1=>if(sqAt n.2.1 k).1≠0 then elT n k else
  if 0<=nsAt (sqAt n.2.1 k).2.2 0 - fstP n/\nsAt (usesP n) (nsAt (sqAt n.2.1 k).2.2 0).toNat=1 then
   ((elT n k).1++[(nsAt (sqAt n.2.1 k).2.2 0 - fstP n,(k:Int))],gset (elT n k).2 (nsAt (sqAt n.2.1 k).2.2 0 - fstP n) true)
  else((elT n k).1++[(-1,(k:Int))],(elT n k).2)
def bAu (U:List Bool)(k:Nat):Bool:=U.getD k false
theorem bAu_get {U:List Bool}{k:Nat}(h:k<U.length):gget false U (k:Int)=some (bAu U k):=by
 unfold bAu;rw[gget_nat h,List.getD,List.getElem?_eq_getElem h];rfl
def elL (n:Net):Nat->List Le
 | 0=>(elT n n.2.1.length).1
 | k+1=>if bAu (elT n n.2.1.length).2 k=false then elL n k++[((k:Int),-1)]else elL n k
def elP (n:Net):List Le:=elL n n.2.2.1.length
theorem elT_ok {n:Net}(hn:netP n=true):∀k,k<=n.2.1.length->(elT n k).1.length<=k/\(elT n k).2.length=n.2.2.1.length/\∀e∈(elT n k).1,leOk n e:=by
 obtain⟨hln,_,hs,_⟩:=netP_all hn;have hv:=lnV_le hln;intro k
 induction k with
 | zero=>intro _;simp[elT]
 | succ k ih=>
  intro hk;obtain⟨i1,i2,i3⟩:=ih (by omega);have hsk:=hs k (by omega);unfold elT;by_cases c0:(sqAt n.2.1 k).1≠0
  ·rw[if_pos c0];exact⟨by omega,i2,i3⟩
  have c0:(sqAt n.2.1 k).1=0:=Decidable.byContradiction c0;rw[if_neg (fun e=>e c0)];have hlen:(sqAt n.2.1 k).2.2.length=1:=by rcases hsk.1 with q | q<;>omega
  have hx:=belowP_mem hsk.2 (nsAt (sqAt n.2.1 k).2.2 0) (by
   rw[<-ns_at (show 0<(sqAt n.2.1 k).2.2.length by omega)];exact List.getElem_mem _)
  have hlv:lnV n=fstP n+n.2.2.1.length:=rfl;by_cases c1:0<=nsAt (sqAt n.2.1 k).2.2 0 - fstP n/\nsAt (usesP n) (nsAt (sqAt n.2.1 k).2.2 0).toNat=1
  ·rw[if_pos c1];refine⟨by simp;omega,by show(gset _ _ _).length=_;unfold gset;rw[List.length_set];exact i2,fun e he=> ?_⟩;rcases List.mem_append.1 he with q | q
   ·exact i3 e q
   ·rw[List.mem_singleton]at q;subst q;refine⟨⟨⟨by simp only;omega,by simp only;omega⟩,⟨by simp only;omega,by simp only;omega⟩,by simp only;omega⟩,fun _=> ?_,fun _ _=> ?_⟩
    ·simp only[Int.toNat_natCast];exact c0
    ·simp only[Int.toNat_natCast];refine⟨by omega,?_⟩;rw[show fstP n+(nsAt (sqAt n.2.1 k).2.2 0 - fstP n)=nsAt (sqAt n.2.1 k).2.2 0 by omega];exact c1.2
  ·rw[if_neg c1];refine⟨by simp;omega,i2,fun e he=> ?_⟩;rcases List.mem_append.1 he with q | q
   ·exact i3 e q
   ·rw[List.mem_singleton]at q;subst q;refine⟨⟨⟨by simp only;omega,by simp only;omega⟩,⟨by simp only;omega,by simp only;omega⟩,by simp only;omega⟩,fun _=> ?_,fun h=>absurd h (by simp only;omega)⟩;simp only[Int.toNat_natCast];exact c0
theorem elL_ok {n:Net}(hn:netP n=true):∀k,k<=n.2.2.1.length->(elL n k).length<=12+k/\∀e∈elL n k,leOk n e:=by
 obtain⟨hln,_⟩:=netP_all hn;obtain⟨h1,h2,h3⟩:=elT_ok hn n.2.1.length (Nat.le_refl _);have hl2:=hln.2.1;intro k
 induction k with
 | zero=>intro _;exact⟨by show(elT n n.2.1.length).1.length<=_;omega,h3⟩
 | succ k ih=>
  intro hk;obtain⟨i1,i2⟩:=ih (by omega);show(if bAu (elT n n.2.1.length).2 k=false then elL n k++[((k:Int),-1)]else elL n k).length<=_/\∀e∈(if bAu (elT n n.2.1.length).2 k=false then elL n k++[((k:Int),-1)]else elL n k),leOk n e;split
  ·refine⟨by simp;omega,fun e he=> ?_⟩;rcases List.mem_append.1 he with q | q
   ·exact i2 e q
   ·rw[List.mem_singleton]at q;subst q;exact⟨⟨⟨by simp only;omega,by simp only;omega⟩,⟨by simp only;omega,by simp only;omega⟩,by simp only;omega⟩,fun h=>absurd h (by simp only;omega),fun _ h=>absurd h (by simp only;omega)⟩
  ·exact⟨by omega,i2⟩
theorem gapp16l {xs ys:List Le}(h:xs.length+ys.length<=1000000000):gapp 16 xs ys=some (xs++ys):=gapp_some (by omega) (by omega)
theorem gapp40 {xs ys:List Blk}(h:xs.length+ys.length<=1000000000):gapp 40 xs ys=some (xs++ys):=gapp_some (by omega) (by omega)
theorem el_impl {n:Net}(hb:NetB n)(hn:netP n=true):impl_elements n=some (elP n):=by
 obtain⟨hln,_,hs,_⟩:=netP_all hn;have hv:=lnV_le hln;have hl2:=hln.2.1;have hl3:=hln.2.2.1;have hul:=usesP_len n;have hlv:lnV n=fstP n+n.2.2.1.length:=rfl;unfold impl_elements;rw[uses_impl hb hn];simp only[Option.bind_some];rw[gmake_nat (by omega) (by omega)];simp only[Option.bind_some];refine loop_upto n.2.1.length (fun k=>((k:Int),elT n k)) (fun k hk=> ?_) ?_
 ·obtain⟨i1,i2,_⟩:=elT_ok hn k (by omega);have hsk:=hs k hk;obtain⟨g1,g2⟩:=sq_get hk
  try dsimp only
  rw[dt (show(k:Int)<(n.2.1.length:Int)by omega),cond_true,g1];simp only[Option.bind_some];rw[show elT n (k+1)=if(sqAt n.2.1 k).1≠0 then elT n k else
  if 0<=nsAt (sqAt n.2.1 k).2.2 0 - fstP n/\nsAt (usesP n) (nsAt (sqAt n.2.1 k).2.2 0).toNat=1 then
   ((elT n k).1++[(nsAt (sqAt n.2.1 k).2.2 0 - fstP n,(k:Int))],gset (elT n k).2 (nsAt (sqAt n.2.1 k).2.2 0 - fstP n) true)
  else((elT n k).1++[(-1,(k:Int))],(elT n k).2)from rfl]
  generalize elT n k=t at*;by_cases c0:(sqAt n.2.1 k).1≠0
  ·rw[dt c0,cond_true,if_pos c0,wrap_ok (by omega)];rfl
  rw[df c0,cond_false,if_neg c0];have c0:(sqAt n.2.1 k).1=0:=Decidable.byContradiction c0;have hlen:(sqAt n.2.1 k).2.2.length=1:=by rcases hsk.1 with q | q<;>omega
  have g0:gget 0 (sqAt n.2.1 k).2.2 0=some (nsAt (sqAt n.2.1 k).2.2 0):=nsAt_get (show 0<(sqAt n.2.1 k).2.2.length by omega);have hx:=belowP_mem hsk.2 (nsAt (sqAt n.2.1 k).2.2 0) (by
   rw[<-ns_at (show 0<(sqAt n.2.1 k).2.2.length by omega)];exact List.getElem_mem _)
  rw[g0];generalize nsAt (sqAt n.2.1 k).2.2 0=x at*;simp only[Option.bind_some];rw[fst_impl hln];simp only[Option.bind_some];rw[wrap_ok (z:=x - fstP n) (by omega)];by_cases c1:0<=x - fstP n
  ·rw[dt c1,cond_true,gin_some hx.1 (by omega),gget_ns hx.1 (by omega)];simp only[Option.bind_some];by_cases c2:nsAt (usesP n) x.toNat=1
   ·have gb:gget false t.2 (x - fstP n)=some (t.2.getD (x - fstP n).toNat false):=gget_some c1 (by omega);rw[dt c2,cond_true,if_pos ⟨c1,c2⟩,gin_some c1 (by omega),gb];simp only[Option.bind_some];rw[gapp16l (by simp only[List.length_cons,List.length_nil];omega)];simp only[Option.bind_some];rw[wrap_ok (z:=(k:Int)+1) (by omega)];rfl
   ·rw[df c2,cond_false,if_neg (fun e=>c2 e.2),gapp16l (by simp only[List.length_cons,List.length_nil];omega)];simp only[Option.bind_some];rw[wrap_ok (z:=(k:Int)+1) (by omega)];rfl
  ·rw[df c1,cond_false,if_neg (fun e=>c1 e.1),gapp16l (by simp only[List.length_cons,List.length_nil];omega)];simp only[Option.bind_some];rw[wrap_ok (z:=(k:Int)+1) (by omega)];rfl
 ·obtain⟨i1,i2,_⟩:=elT_ok hn n.2.1.length (Nat.le_refl _)
  try dsimp only
  rw[df (show ¬(n.2.1.length:Int)<(n.2.1.length:Int)by omega),cond_false];refine mapS ?_
  refine loop_upto n.2.2.1.length (fun k=>((k:Int),elL n k)) (fun k hk=> ?_) ?_
  ·have hel:=(elL_ok hn k (by omega)).1
   try dsimp only
   rw[dt (show(k:Int)<(n.2.2.1.length:Int)by omega),cond_true,gin_nat (by omega),bAu_get (by omega)];simp only[Option.bind_some];show _=some (Sum.inl (((k+1:Nat):Int),if bAu (elT n n.2.1.length).2 k=false then elL n k++[((k:Int),-1)]else elL n k));cases hu:bAu (elT n n.2.1.length).2 k with
   | true=>rw[Bool.not_true,cond_false,if_neg (by simp),wrap_ok (by omega)];rfl
   | false=>
    rw[Bool.not_false,cond_true,if_pos rfl,gapp16l (by simp only[List.length_cons,List.length_nil];omega)];simp only[Option.bind_some];rw[wrap_ok (by omega)];rfl
  ·try dsimp only
   rw[df (show ¬(n.2.2.1.length:Int)<(n.2.2.1.length:Int)by omega),cond_false];rfl
theorem el_spec {n:Net}(hb:NetB n)(hn:netP n=true):spec_l28Les n=some (elP n):=by
 obtain⟨hln,_,hs,_⟩:=netP_all hn;have hv:=lnV_le hln;have hl2:=hln.2.1;have hl3:=hln.2.2.1;have hul:=usesP_len n;have hlv:lnV n=fstP n+n.2.2.1.length:=rfl;unfold spec_l28Les;rw[uses_spec hb hn];simp only[Option.bind_some];rw[gmake_nat (by omega) (by omega)];simp only[Option.bind_some];refine loop_upto n.2.1.length (fun k=>((k:Int),elT n k)) (fun k hk=> ?_) ?_
 ·obtain⟨i1,i2,_⟩:=elT_ok hn k (by omega);have hsk:=hs k hk;obtain⟨g1,g2⟩:=sq_get hk
  try dsimp only
  rw[dt (show(k:Int)<(n.2.1.length:Int)by omega),cond_true,g1];simp only[Option.bind_some];rw[show elT n (k+1)=if(sqAt n.2.1 k).1≠0 then elT n k else
  if 0<=nsAt (sqAt n.2.1 k).2.2 0 - fstP n/\nsAt (usesP n) (nsAt (sqAt n.2.1 k).2.2 0).toNat=1 then
   ((elT n k).1++[(nsAt (sqAt n.2.1 k).2.2 0 - fstP n,(k:Int))],gset (elT n k).2 (nsAt (sqAt n.2.1 k).2.2 0 - fstP n) true)
  else((elT n k).1++[(-1,(k:Int))],(elT n k).2)from rfl]
  generalize elT n k=t at*;by_cases c0:(sqAt n.2.1 k).1≠0
  ·rw[dt c0,cond_true,if_pos c0,wrap_ok (by omega)];rfl
  rw[df c0,cond_false,if_neg c0];have c0:(sqAt n.2.1 k).1=0:=Decidable.byContradiction c0;have hlen:(sqAt n.2.1 k).2.2.length=1:=by rcases hsk.1 with q | q<;>omega
  have g0:gget 0 (sqAt n.2.1 k).2.2 0=some (nsAt (sqAt n.2.1 k).2.2 0):=nsAt_get (show 0<(sqAt n.2.1 k).2.2.length by omega);have hx:=belowP_mem hsk.2 (nsAt (sqAt n.2.1 k).2.2 0) (by
   rw[<-ns_at (show 0<(sqAt n.2.1 k).2.2.length by omega)];exact List.getElem_mem _)
  rw[g0];generalize nsAt (sqAt n.2.1 k).2.2 0=x at*;simp only[Option.bind_some];rw[fst_spec hln];simp only[Option.bind_some];rw[wrap_ok (z:=x - fstP n) (by omega)];by_cases c1:0<=x - fstP n
  ·rw[dt c1,cond_true,gin_some hx.1 (by omega),gget_ns hx.1 (by omega)];simp only[Option.bind_some];by_cases c2:nsAt (usesP n) x.toNat=1
   ·have gb:gget false t.2 (x - fstP n)=some (t.2.getD (x - fstP n).toNat false):=gget_some c1 (by omega);rw[dt c2,cond_true,if_pos ⟨c1,c2⟩,gin_some c1 (by omega),gb];simp only[Option.bind_some];rw[gapp16l (by simp only[List.length_cons,List.length_nil];omega)];simp only[Option.bind_some];rw[wrap_ok (z:=(k:Int)+1) (by omega)];rfl
   ·rw[df c2,cond_false,if_neg (fun e=>c2 e.2),gapp16l (by simp only[List.length_cons,List.length_nil];omega)];simp only[Option.bind_some];rw[wrap_ok (z:=(k:Int)+1) (by omega)];rfl
  ·rw[df c1,cond_false,if_neg (fun e=>c1 e.1),gapp16l (by simp only[List.length_cons,List.length_nil];omega)];simp only[Option.bind_some];rw[wrap_ok (z:=(k:Int)+1) (by omega)];rfl
 ·obtain⟨i1,i2,_⟩:=elT_ok hn n.2.1.length (Nat.le_refl _)
  try dsimp only
  rw[df (show ¬(n.2.1.length:Int)<(n.2.1.length:Int)by omega),cond_false];refine mapS ?_
  refine loop_upto n.2.2.1.length (fun k=>((k:Int),elL n k)) (fun k hk=> ?_) ?_
  ·have hel:=(elL_ok hn k (by omega)).1
   try dsimp only
   rw[dt (show(k:Int)<(n.2.2.1.length:Int)by omega),cond_true,gin_nat (by omega),bAu_get (by omega)];simp only[Option.bind_some];show _=some (Sum.inl (((k+1:Nat):Int),if bAu (elT n n.2.1.length).2 k=false then elL n k++[((k:Int),-1)]else elL n k));cases hu:bAu (elT n n.2.1.length).2 k with
   | true=>rw[Bool.not_true,cond_false,if_neg (by simp),wrap_ok (by omega)];rfl
   | false=>
    rw[Bool.not_false,cond_true,if_pos rfl,gapp16l (by simp only[List.length_cons,List.length_nil];omega)];simp only[Option.bind_some];rw[wrap_ok (by omega)];rfl
  ·try dsimp only
   rw[df (show ¬(n.2.2.1.length:Int)<(n.2.2.1.length:Int)by omega),cond_false];rfl
def ndsLe (n:Net)(e:Le):List Int:=ins (insLe n e) (outLe n e)
def cmA (xs ys:List Int):Nat->Int
 | 0=>0
 | k+1=>if nsAt xs k∈ys then cmA xs ys k+1 else cmA xs ys k
theorem cmA_le (xs ys:List Int)(k:Nat):0<=cmA xs ys k/\cmA xs ys k<=k:=by
 induction k with
 | zero=>simp[cmA]
 | succ k ih=>unfold cmA;split<;>omega
def com (n:Net)(e r:Le):Int:=cmA (ndsLe n e) (ndsLe n r) (ndsLe n e).length
theorem nds_len {n:Net}(h:netP n=true){e:Le}(he:leOk n e):(ndsLe n e).length<=5:=by
 have h1:=insLe_len h he;have h2:=ins_len (insLe n e) (outLe n e);unfold ndsLe;omega
theorem nds_impl {n:Net}(h:netP n=true){e:Le}(he:leOk n e):impl_leNodes (n,e)=some (ndsLe n e):=by
 have h1:=insLe_len h he;unfold impl_leNodes;rw[ins_impl h he,out_impl (netP_all h).1 he];simp only[Option.bind_some];rw[insert_impl _ _ (by omega)];rfl
theorem com_impl {n:Net}(h:netP n=true){e r:Le}(he:leOk n e)(hr:leOk n r):impl_commonCount (ndsLe n e,ndsLe n r)=some (com n e r):=by
 have h1:=nds_len h he;have h2:=nds_len h hr;unfold impl_commonCount com;generalize ndsLe n e=xs at*;generalize ndsLe n r=ys at*;refine loop_upto xs.length (fun k=>(cmA xs ys k,(k:Int))) (fun k hk=> ?_) ?_
 ·have hc:=cmA_le xs ys k
  try dsimp only
  rw[dt (show(k:Int)<(xs.length:Int)by omega),cond_true,nsAt_get hk];simp only[Option.bind_some];rw[has_impl _ _ (by omega)];simp only[Option.bind_some];show _=some (Sum.inl ((if nsAt xs k∈ys then cmA xs ys k+1 else cmA xs ys k),((k+1:Nat):Int)));by_cases c:nsAt xs k∈ys
  ·rw[dt c,cond_true,if_pos c,wrap_ok (z:=cmA xs ys k+1) (by omega),wrap_ok (z:=(k:Int)+1) (by omega)];rfl
  ·rw[df c,cond_false,if_neg c,wrap_ok (z:=(k:Int)+1) (by omega)];rfl
 ·try dsimp only
  rw[df (by omega),cond_false];rfl
theorem com_spec {n:Net}(h:netP n=true){e r:Le}(he:leOk n e)(hr:leOk n r):spec_l28Common (n,(e,r))=some (com n e r):=by
 have h1:=insLe_len h he;have h2:=insLe_len h hr;have h3:=nds_len h he;have ho:=outLe_r (netP_all h).1 he;unfold spec_l28Common com
 try dsimp only
 rw[ins_spec h he,out_spec (netP_all h).1 he,ins_spec h hr,out_spec (netP_all h).1 hr];simp only[Option.bind_some];rw[gapp_ok (by simp only[List.length_cons,List.length_nil];omega)];simp only[Option.bind_some];rw[gapp_ok (by simp only[List.length_cons,List.length_nil];omega)];simp only[Option.bind_some];rw[set28_spec _ _ (by simp only[List.length_append,List.length_cons,List.length_nil];omega) (by simp)];simp only[Option.bind_some];have e1:setP (insLe n e++[outLe n e]) []=ndsLe n e:=by
  refine asc_ext (asc_insL asc_nil) (asc_ins (asc_insL asc_nil)) fun x=> ?_
  rw[setP_mem,List.mem_append,List.mem_singleton];unfold ndsLe;rw[mem_ins]
  constructor
  ·rintro⟨q | q,_⟩
   ·exact .inr q
   ·exact .inl q
  ·rintro(q | q)
   ·exact⟨.inr q,by omega,by simp⟩
   ·exact⟨.inl q,(setP_mem.1 q).2.1,by simp⟩
 have e2:∀x,(x∈insLe n r++[outLe n r])↔x∈ndsLe n r:=fun x=>by
  unfold ndsLe;rw[mem_ins,List.mem_append,List.mem_singleton];exact⟨fun q=>q.symm,fun q=>q.symm⟩
 rw[e1];have h4:(insLe n r++[outLe n r]).length<=5:=by simp;omega
 generalize insLe n r++[outLe n r]=zs at*;generalize ndsLe n e=xs at*;generalize ndsLe n r=ys at*;refine loop_upto xs.length (fun k=>(cmA xs ys k,(k:Int))) (fun k hk=> ?_) ?_
 ·have hc:=cmA_le xs ys k
  try dsimp only
  rw[dt (show(k:Int)<(xs.length:Int)by omega),cond_true,gin_nat hk,nsAt_get hk];simp only[Option.bind_some];rw[has_spec _ _ (by omega)];simp only[Option.bind_some];show _=some (Sum.inl ((if nsAt xs k∈ys then cmA xs ys k+1 else cmA xs ys k),((k+1:Nat):Int)));by_cases c:nsAt xs k∈ys
  ·rw[dt ((e2 _).2 c),if_pos c];show(some (1:Int)).bind _=_;simp only[Option.bind_some];rw[wrap_ok (z:=cmA xs ys k+1) (by omega),wrap_ok (z:=(k:Int)+1) (by omega)];rfl
  ·rw[df (fun q=>c ((e2 _).1 q)),if_neg c];show(some (0:Int)).bind _=_;simp only[Option.bind_some];rw[wrap_ok (z:=cmA xs ys k+0) (by omega),wrap_ok (z:=(k:Int)+1) (by omega),Int.add_zero];rfl
 ·try dsimp only
  rw[df (by omega),cond_false];rfl
end Go.Pf
/-
  Own work. Packing, plainly: the search for partners.
-/
namespace Go.Pf
open Go Go.Pu
set_option linter.unusedVariables false
def scP (n:Net)(e:Le)(rest:List Le):Nat->Int×Int
 | 0=>(-1,-1)
 | k+1=>if(pinsP n [e,leAt rest k]).length<=5/\(scP n e rest k).2<com n e (leAt rest k)then((k:Int),com n e (leAt rest k))else scP n e rest k
theorem com_le {n:Net}(h:netP n=true){e r:Le}(he:leOk n e):0<=com n e r/\com n e r<=5:=by
 have h1:=nds_len h he;have h2:=cmA_le (ndsLe n e) (ndsLe n r) (ndsLe n e).length;unfold com;omega
theorem scP_ok {n:Net}(h:netP n=true){e:Le}(he:leOk n e)(rest:List Le)(k:Nat): -1<=(scP n e rest k).1/\(scP n e rest k).1<k∧-1<=(scP n e rest k).2/\(scP n e rest k).2<=5:=by
 induction k with
 | zero=>simp[scP]
 | succ k ih=>
  unfold scP;split
  ·have:=com_le h (r:=leAt rest k) he;exact⟨by simp only;omega,by simp only;omega,by simp only;omega,by simp only;omega⟩
  ·omega
inductive Packs (n:Net):List Blk->List Le->List Blk->Prop
 | nil (bs:List Blk):Packs n bs [] bs
 | two (bs:List Blk) (e:Le) (rest:List Le) (b:Nat) (out:List Blk):(scP n e rest rest.length).1=(b:Int)->b<rest.length->Packs n (bs++[(3,(0,[e,leAt rest b]))]) (rest.take b++rest.drop (b+1)) out->Packs n bs (e::rest) out
 | one (bs:List Blk) (e:Le) (rest:List Le) (out:List Blk):(scP n e rest rest.length).1<0->Packs n (bs++[(3,(0,[e]))]) rest out->Packs n bs (e::rest) out
theorem packs_ex {n:Net}(h:netP n=true):∀(m:Nat) (bs:List Blk) (left:List Le),left.length<=m->(∀e∈left,leOk n e)->∃out,Packs n bs left out
 | _,bs,[],_,_=>⟨bs,.nil bs⟩
 | 0,bs,e::rest,hm,_=>by simp at hm
 | m+1,bs,e::rest,hm,ho=>by
  have hs:=scP_ok h (ho e (by simp)) rest rest.length;simp only[List.length_cons]at hm;by_cases c:(scP n e rest rest.length).1<0
  ·obtain⟨out,hp⟩:=packs_ex h m (bs++[(3,(0,[e]))]) rest (by omega) (fun x hx=>ho x (by simp[hx]));exact⟨out,.one bs e rest out c hp⟩
  ·obtain⟨b,hb⟩:∃b:Nat,(scP n e rest rest.length).1=(b:Int):=⟨(scP n e rest rest.length).1.toNat,by omega⟩;obtain⟨out,hp⟩:=packs_ex h m (bs++[(3,(0,[e,leAt rest b]))]) (rest.take b++rest.drop (b+1)) (by simp;omega) (fun x hx=>by
    rcases List.mem_append.1 hx with q | q
    ·exact ho x (List.mem_cons_of_mem _ (List.mem_of_mem_take q))
    ·exact ho x (List.mem_cons_of_mem _ (List.mem_of_mem_drop q)))
   exact⟨out,.two bs e rest b out hb (by omega) hp⟩
theorem packs_grow {n:Net}{bs:List Blk}{left:List Le}{out:List Blk}(h:Packs n bs left out):bs.length<=out.length/\(left≠[]->bs.length<out.length)/\((∀b∈bs,b.2.2.length<=2)->∀b∈out,b.2.2.length<=2):=by
 induction h with
 | nil bs=>exact⟨Nat.le_refl _,fun q=>absurd rfl q,fun q=>q⟩
 | two bs e rest b out _ _ _ ih=>
  obtain⟨i1,_,i3⟩:=ih;rw[List.length_append]at i1;simp only[List.length_cons,List.length_nil]at i1;refine⟨by omega,fun _=>by omega,fun q=>i3 fun x hx=> ?_⟩;rcases List.mem_append.1 hx with p | p
  ·exact q x p
  ·rw[List.mem_singleton]at p;subst p;simp
 | one bs e rest out _ _ ih=>
  obtain⟨i1,_,i3⟩:=ih;rw[List.length_append]at i1;simp only[List.length_cons,List.length_nil]at i1;refine⟨by omega,fun _=>by omega,fun q=>i3 fun x hx=> ?_⟩;rcases List.mem_append.1 hx with p | p
  ·exact q x p
  ·rw[List.mem_singleton]at p;subst p;simp
def finP (out:List Blk):List Blk×Bool:=if 64<(out.length:Int)then([],false)else(out,true)
noncomputable def pkF (v0:Net):(List Blk×List Le)->Option ((List Blk×List Le)⊕(List Blk×Bool)):=(fun(v12:(List (Int×(Int×List (Int×Int)))×List (Int×Int)))=>
 let v13:Int:=((v12.2).length:Int)
 let v14:Bool:=decide (0<v13)
 bif v14 then(
  (gin (v12.2).length 0).bind fun _=>
  (gget (0,0) v12.2 0).bind fun v16=>
  let v17:List (Int×Int):=[v16]
  (impl_leNodes (v0,v16)).bind fun v18=>
  Pu.loop (fun(v19:(Int×(Int×Int)))=>
   let v20:Int:=((v12.2).length:Int)
   let v21:Bool:=decide (v19.2.2<v20)
   bif v21 then(
    joinO (
     (gin (v12.2).length v19.2.2).bind fun _=>
     (gget (0,0) v12.2 v19.2.2).bind fun v23=>
     let v24:List (Int×Int):=[v16,v23]
     some (.inl v24)) (fun(v22:List (Int×Int))=>
     (gin (v12.2).length v19.2.2).bind fun _=>
     (gget (0,0) v12.2 v19.2.2).bind fun v24=>
     (impl_leNodes (v0,v24)).bind fun v25=>
     (impl_commonCount (v18,v25)).bind fun v26=>
     (impl_pinNodes (v0,(3,(0,v22)))).bind fun v27=>
     let v28:Int:=((v27).length:Int)
     let v29:Bool:=decide (v28<=5)
     bif v29 then(
      let v30:Bool:=decide (v19.2.1<v26)
      bif v30 then(
       let v31:Int:=wrap .i64 (v19.2.2+1)
       some (.inl (v19.2.2,(v26,v31))))else
      let v31:Int:=wrap .i64 (v19.2.2+1)
      some (.inl (v19.1,(v19.2.1,v31))))else
     let v30:Int:=wrap .i64 (v19.2.2+1)
     some (.inl (v19.1,(v19.2.1,v30)))))else
   Option.map Sum.inr (
    let v22:Bool:=decide (0<v19.1)
    bif v22 then(
     (gin (v12.2).length v19.1).bind fun _=>
     (gget (0,0) v12.2 v19.1).bind fun v24=>
     let v25:List (Int×Int):=[v24]
     (gapp 16 v17 v25).bind fun v26=>
     (gslice v12.2 0 v19.1).bind fun v27=>
     let v28:Int:=wrap .i64 (v19.1+1)
     (gslice v12.2 v28 ((v12.2).length:Int)).bind fun v29=>
     (gapp 16 v27 v29).bind fun v30=>
     (gslice v30 1 ((v30).length:Int)).bind fun v31=>
     let v32:List (Int×(Int×List (Int×Int))):=[(3,(0,v26))]
     (gapp 40 v12.1 v32).bind fun v33=>
     some (.inl (v33,v31)))else
    (gslice v12.2 1 ((v12.2).length:Int)).bind fun v23=>
    let v24:List (Int×(Int×List (Int×Int))):=[(3,(0,v17))]
    (gapp 40 v12.1 v24).bind fun v25=>
    some (.inl (v25,v23)))) ((-1),((-1),1)))else
 Option.map Sum.inr (
  let v15:Int:=((v12.1).length:Int)
  let v16:Bool:=decide (64<v15)
  bif v16 then(
   some (([]:List (Int×(Int×List (Int×Int)))),false))else
  some (v12.1,true)))
def b1 (b:Int):Int:=if b<0 then -1 else b+1
theorem les2 {n:Net}{e r:Le}(he:leOk n e)(hr:leOk n r):lesP n [e,r]=true:=by
 unfold lesP;simp[he,hr]
theorem les1 {n:Net}{e:Le}(he:leOk n e):lesP n [e]=true:=by
 unfold lesP;simp[he]
theorem leAt_cons (e:Le)(rest:List Le)(k:Nat):leAt (e::rest) (k+1)=leAt rest k:=by unfold leAt;simp
theorem leAt_mem {ls:List Le}{k:Nat}(h:k<ls.length):leAt ls k∈ls:=by rw[<-le_eq h];exact List.getElem_mem h
theorem gslice_preL {xs:List Le}{k:Nat}(h:k<=xs.length):gslice xs 0 (k:Int)=some (xs.take k):=by
 unfold gslice;rw[if_pos ⟨by omega,by omega,by omega⟩];simp
theorem gslice_sufL {xs:List Le}{k:Nat}(h:k<=xs.length):gslice xs (k:Int) (xs.length:Int)=some (xs.drop k):=by
 unfold gslice;rw[if_pos ⟨by omega,by omega,by omega⟩];simp
theorem pkF_scan {n:Net}(hb:NetB n)(hn:netP n=true)(e:Le)(rest:List Le)(bs:List Blk)(ho:∀x∈e::rest,leOk n x)(hl:rest.length<=1000)(hbl:bs.length<=1000):
 pkF n (bs,e::rest)=some (.inl (if 0<b1 (scP n e rest rest.length).1 then(bs++[(3,(0,[e,leAt rest (scP n e rest rest.length).1.toNat]))],rest.take (scP n e rest rest.length).1.toNat++rest.drop ((scP n e rest rest.length).1.toNat+1))else(bs++[(3,(0,[e]))],rest))):=by
 have he:=ho e (by simp);unfold pkF;have hg0:gget ((0,0):Le) (e::rest) 0=some e:=by rw[gget_some (by omega) (by simp only[List.length_cons];omega)];rfl
 have hi0:gin (e::rest).length 0=some ():=gin_some (by omega) (by simp only[List.length_cons];omega)
 try dsimp only
 rw[dt (show 0<((e::rest).length:Int)by simp only[List.length_cons];omega),cond_true,hi0,hg0];simp only[Option.bind_some];rw[nds_impl hn he];simp only[Option.bind_some];refine loop_upto rest.length (fun k=>(b1 (scP n e rest k).1,((scP n e rest k).2,((1+k:Nat):Int)))) (fun k hk=> ?_) ?_
 ·have hsc:=scP_ok hn he rest k;have hr:=ho (leAt rest k) (List.mem_cons_of_mem _ (leAt_mem hk));have hk2:1+k<(e::rest).length:=by simp only[List.length_cons];omega
  have hgk:gget ((0,0):Le) (e::rest) ((1+k:Nat):Int)=some (leAt rest k):=by
   rw[le_get hk2,Nat.add_comm,leAt_cons]
  have hik:gin (e::rest).length ((1+k:Nat):Int)=some ():=gin_nat hk2;have hit:itemP n (3,(0,[e,leAt rest k]))=true:=les2 he hr;have hpin:pinN n (3,(0,[e,leAt rest k]))=pinsP n [e,leAt rest k]:=rfl
  try dsimp only
  rw[dt (show((1+k:Nat):Int)<((e::rest).length:Int)by omega),cond_true,hik,hgk];simp only[Option.bind_some];rw[join_in,nds_impl hn hr];simp only[Option.bind_some];rw[com_impl hn he hr];simp only[Option.bind_some];rw[pinN_impl hb hn hit (by simp),hpin];simp only[Option.bind_some];show _=some (Sum.inl (b1 (if(pinsP n [e,leAt rest k]).length<=5/\(scP n e rest k).2<com n e (leAt rest k)then((k:Int),com n e (leAt rest k))else scP n e rest k).1,((if(pinsP n [e,leAt rest k]).length<=5/\(scP n e rest k).2<com n e (leAt rest k)then((k:Int),com n e (leAt rest k))else scP n e rest k).2,((1+(k+1):Nat):Int))));have hw:wrap .i64 (((1+k:Nat):Int)+1)=((1+(k+1):Nat):Int):=by rw[wrap_ok (by omega)];omega
  by_cases c1:((pinsP n [e,leAt rest k]).length:Int)<=5
  ·rw[dt c1,cond_true];by_cases c2:(scP n e rest k).2<com n e (leAt rest k)
   ·rw[dt c2,cond_true,if_pos ⟨by omega,c2⟩,hw];have e1:b1 (k:Int)=((1+k:Nat):Int):=by unfold b1;rw[if_neg (by omega)];omega
    rw[e1]
   ·rw[df c2,cond_false,if_neg (fun q=>c2 q.2),hw]
  ·rw[df c1,cond_false,if_neg (fun q=>c1 (by omega)),hw]
 ·have hsc:=scP_ok hn he rest rest.length;generalize scP n e rest rest.length=s at*;have hlen:((1+rest.length:Nat):Int)=((e::rest).length:Int):=by simp only[List.length_cons];omega
  try dsimp only
  rw[hlen,df (show ¬((e::rest).length:Int)<((e::rest).length:Int)by omega),cond_false];refine mapS ?_
  by_cases c:s.1<0
  ·have e1:b1 s.1= -1:=by unfold b1;rw[if_pos c]
   have hs1:gslice (e::rest) 1 ((e::rest).length:Int)=some rest:=gslice_sufL (k:=1) (by simp only[List.length_cons];omega);rw[e1,df (show ¬(0:Int)< -1 by omega),cond_false,if_neg (show ¬(0:Int)< -1 by omega),hs1];simp only[Option.bind_some];rw[gapp40 (by simp only[List.length_cons,List.length_nil];omega)];rfl
  ·obtain⟨b,hb'⟩:∃b:Nat,s.1=(b:Int):=⟨s.1.toNat,by omega⟩;have e1:b1 s.1=((b+1:Nat):Int):=by unfold b1;rw[if_neg c,hb'];omega
   have hbr:b<rest.length:=by omega
   have hbl2:b+1<(e::rest).length:=by simp only[List.length_cons];omega
   rw[e1,dt (show(0:Int)<((b+1:Nat):Int)by omega),cond_true,if_pos (show(0:Int)<((b+1:Nat):Int)by omega),gin_nat hbl2,le_get hbl2,leAt_cons];simp only[Option.bind_some];rw[gapp16l (by simp),gslice_preL (show b+1<=(e::rest).length by omega),wrap_ok (by omega)];simp only[Option.bind_some];have e2:(((b+1:Nat):Int)+1)=((b+2:Nat):Int):=by omega
   rw[e2,gslice_sufL (show b+2<=(e::rest).length by omega)];simp only[Option.bind_some];rw[gapp16l (by rw[List.length_take,List.length_drop];omega)];simp only[Option.bind_some];have e3:∀zs:List Le,zs=(e::rest).take (b+1)++(e::rest).drop (b+2)->gslice zs 1 (zs.length:Int)=some (rest.take b++rest.drop (b+1)):=fun zs hz=>by
    subst hz;rw[show(1:Int)=((1:Nat):Int)from rfl,gslice_sufL (by simp)];rfl
   rw[e3 _ rfl];simp only[Option.bind_some];rw[gapp40 (by simp only[List.length_cons,List.length_nil];omega),hb',Int.toNat_natCast];rfl
theorem loop_inl {σ ω:Type}{f:σ->Option (σ⊕ω)}{s s' :σ}(h:f s=some (.inl s')):loop f s=loop f s' :=by rw[loop_eq,h]
theorem loop_inr {σ ω:Type}{f:σ->Option (σ⊕ω)}{s:σ}{o:ω}(h:f s=some (.inr o)):loop f s=some o:=by rw[loop_eq,h]
theorem pkF_run {n:Net}(hb:NetB n)(hn:netP n=true){bs:List Blk}{left:List Le}{out:List Blk}(h:Packs n bs left out):(∀x∈left,leOk n x)->bs.length+left.length<=1000->loop (pkF n) (bs,left)=some (finP out):=by
 induction h with
 | nil bs=>
  intro _ _;refine loop_inr ?_
  unfold pkF finP
  try dsimp only
  rw[df (show ¬0<(([]:List Le).length:Int)by simp),cond_false];by_cases c:64<(bs.length:Int)
  ·rw[dt c,cond_true,if_pos c];rfl
  ·rw[df c,cond_false,if_neg c];rfl
 | two bs e rest b out h1 h2 _ ih=>
  intro ho hl;simp only[List.length_cons]at hl;have hs:=pkF_scan hb hn e rest bs ho (by omega) (by omega);rw[h1,show b1 ((b:Nat):Int)=((b+1:Nat):Int)by unfold b1;rw[if_neg (by omega)];omega,if_pos (show(0:Int)<((b+1:Nat):Int)by omega),Int.toNat_natCast]at hs;rw[loop_inl hs];refine ih (fun x hx=> ?_) ?_
  ·rcases List.mem_append.1 hx with q | q
   ·exact ho x (List.mem_cons_of_mem _ (List.mem_of_mem_take q))
   ·exact ho x (List.mem_cons_of_mem _ (List.mem_of_mem_drop q))
  ·simp only[List.length_append,List.length_cons,List.length_nil,List.length_take,List.length_drop];omega
 | one bs e rest out h1 _ ih=>
  intro ho hl;simp only[List.length_cons]at hl;have hs:=pkF_scan hb hn e rest bs ho (by omega) (by omega);rw[show b1 (scP n e rest rest.length).1= -1 by unfold b1;rw[if_pos h1],if_neg (show ¬(0:Int)< -1 by omega)]at hs;rw[loop_inl hs];refine ih (fun x hx=>ho x (List.mem_cons_of_mem _ hx)) ?_
  simp only[List.length_append,List.length_cons,List.length_nil];omega
end Go.Pf
/-
  Own work. Packing, plainly: the reference's loop.
-/
namespace Go.Pf
open Go Go.Pu
set_option linter.unusedVariables false
def lft (N:Nat)(U:List Bool)(i:Nat):List Nat:=(List.range' i (N - i)).filter fun j=> !bAu U j
theorem lft_end (N:Nat)(U:List Bool):lft N U N=[]:=by unfold lft;rw[Nat.sub_self];rfl
theorem lft_cons {N i:Nat}(h:i<N)(U:List Bool):lft N U i=if bAu U i=true then lft N U (i+1)else i::lft N U (i+1):=by
 unfold lft;rw[show N - i=(N - (i+1))+1 by omega,List.range'_succ,List.filter_cons];cases bAu U i<;>rfl
theorem lft_mem {N i:Nat}{U:List Bool}{j:Nat}(h:j∈lft N U i):i<=j/\j<N/\bAu U j=false:=by
 unfold lft at h;rw[List.mem_filter,List.mem_range'_1]at h;obtain⟨h1,h2⟩:=h;refine⟨by omega,by omega,by simpa using h2⟩
theorem lft_len (N:Nat)(U:List Bool)(i:Nat):(lft N U i).length<=N - i:=by
 unfold lft;exact Nat.le_trans (List.length_filter_le _ _) (by rw[List.length_range'];exact Nat.le_refl _)
theorem filt_ne:∀(I:List Nat) (b:Nat) (h:b<I.length),I.Nodup->I.filter (fun j=> !(j==I[b]))=I.take b++I.drop (b+1)
 | [],b,h,_=>by simp at h
 | x::xs,0,h,hn=>by
  rw[List.nodup_cons]at hn;rw[List.filter_cons,if_neg (by simp)];show xs.filter (fun j=> !(j==x))=[]++xs;rw[List.nil_append];refine List.filter_eq_self.2 fun a ha=> ?_
  have:a≠x:=fun e=>hn.1 (by rw[<-e];exact ha)
  simp[this]
 | x::xs,b+1,h,hn=>by
  rw[List.nodup_cons]at hn;have hb:b<xs.length:=by simpa using h
  have hx:x≠xs[b]:=fun e=>hn.1 (by rw[e];exact List.getElem_mem hb)
  rw[List.filter_cons,if_pos (by simpa using hx)];show x::xs.filter (fun j=> !(j==xs[b]))=x::(xs.take b++xs.drop (b+1));rw[filt_ne xs b hb hn.2]
theorem bAu_set {U:List Bool}{a:Nat}(h:a<U.length)(j:Nat):bAu (U.set a true) j=if j=a then true else bAu U j:=by
 unfold bAu;rw[List.getD,List.getD,List.getElem?_set];by_cases c:a=j
 ·subst c;simp[h]
 ·rw[if_neg c,if_neg (fun e=>c e.symm)]
theorem lft_set {N i:Nat}{U:List Bool}(hU:U.length=N){b:Nat}(hb:b<(lft N U i).length):lft N (U.set ((lft N U i).getD b 0) true) i=(lft N U i).take b++(lft N U i).drop (b+1):=by
 have hn:(lft N U i).Nodup:=List.Pairwise.sublist List.filter_sublist (List.nodup_range' (s:=i) (n:=N - i));have e:(lft N U i).getD b 0=(lft N U i)[b]:=by rw[List.getD,List.getElem?_eq_getElem hb];rfl
 rw[<-filt_ne _ b hb hn,e];have ha:=(lft_mem (List.getElem_mem hb)).2.1;generalize (lft N U i)[b]=a at*;unfold lft;rw[List.filter_filter];refine List.filter_congr fun j hj=> ?_
 rw[bAu_set (by omega)];by_cases c:j=a
 ·subst c;simp
 ·rw[if_neg c];simp[c]
def cntF (U:List Bool)(i t:Nat):Nat:=((List.range' i t).filter fun j=> !bAu U j).length
theorem cntF_succ (U:List Bool)(i t:Nat):cntF U i (t+1)=if bAu U (i+t)=true then cntF U i t else cntF U i t+1:=by
 unfold cntF;rw[List.range'_concat,List.filter_append,List.length_append,Nat.one_mul];cases h:bAu U (i+t)<;>simp[h]
theorem lft_at {N i t:Nat}(U:List Bool)(h:i+t<N)(hf:bAu U (i+t)=false):cntF U i t<(lft N U i).length/\(lft N U i).getD (cntF U i t) 0=i+t:=by
 have e:lft N U i=((List.range' i t).filter fun j=> !bAu U j)++((i+t)::lft N U (i+t+1)):=by
  have h1:=lft_cons (N:=N) (i:=i+t) h U;rw[if_neg (by simp[hf])]at h1;rw[<-h1];unfold lft;rw[<-List.filter_append,show N - i=t+(N - (i+t))by omega,<-List.range'_append,Nat.one_mul]
 have e2:cntF U i t=((List.range' i t).filter fun j=> !bAu U j).length:=rfl;rw[e,e2];refine⟨by rw[List.length_append,List.length_cons];omega,?_⟩;rw[List.getD,List.getElem?_append_right (Nat.le_refl _),Nat.sub_self];rfl
def absI (I:List Nat)(b:Int):Int:=if b<0 then -1 else((I.getD b.toNat 0:Nat):Int)
theorem leAt_map (les:List Le){I:List Nat}{k:Nat}(h:k<I.length):leAt (I.map (leAt les)) k=leAt les (I.getD k 0):=by
 rw[show leAt (I.map (leAt les)) k=(I.map (leAt les)).getD k (0,0)from rfl,List.getD,List.getElem?_map,List.getD,List.getElem?_eq_getElem h];rfl
noncomputable def pkG (v0:Net)(v11:List Le):(Int×(List Blk×List Bool))->Option ((Int×(List Blk×List Bool))⊕(List Blk×Bool)):=(fun(v14:(Int×(List (Int×(Int×List (Int×Int)))×List Bool)))=>
 let v15:Int:=((v11).length:Int)
 let v16:Bool:=decide (v14.1<v15)
 bif v16 then(
  (gin (v14.2.2).length v14.1).bind fun _=>
  (gget false v14.2.2 v14.1).bind fun v18=>
  bif v18 then(
   let v19:Int:=wrap .i64 (v14.1+1)
   some (.inl (v19,v14.2)))else
  let v19:Int:=((v14.2.1).length:Int)
  let v20:Bool:=decide (v19=64)
  bif v20 then(
   Option.map Sum.inr (
    some (([]:List (Int×(Int×List (Int×Int)))),false)))else
  let v21:Int:=wrap .i64 (v14.1+1)
  Pu.loop (fun(v22:(Int×(Int×Int)))=>
   let v23:Int:=((v11).length:Int)
   let v24:Bool:=decide (v22.1<v23)
   bif v24 then(
    (gin (v14.2.2).length v22.1).bind fun _=>
    (gget false v14.2.2 v22.1).bind fun v26=>
    bif v26 then(
     let v27:Int:=wrap .i64 (v22.1+1)
     some (.inl (v27,v22.2)))else
    (gin (v11).length v14.1).bind fun _=>
    (gget (0,0) v11 v14.1).bind fun v28=>
    (gin (v11).length v22.1).bind fun _=>
    (gget (0,0) v11 v22.1).bind fun v30=>
    let v31:List (Int×Int):=[v28,v30]
    (spec_l28Pins (v0,v31)).bind fun v32=>
    let v33:Int:=((v32).length:Int)
    let v34:Bool:=decide (5<v33)
    bif v34 then(
     let v35:Int:=wrap .i64 (v22.1+1)
     some (.inl (v35,v22.2)))else
    (gin (v11).length v14.1).bind fun _=>
    (gget (0,0) v11 v14.1).bind fun v36=>
    (gin (v11).length v22.1).bind fun _=>
    (gget (0,0) v11 v22.1).bind fun v38=>
    (spec_l28Common (v0,(v36,v38))).bind fun v39=>
    let v40:Bool:=decide (v22.2.2<v39)
    bif v40 then(
     let v41:Int:=wrap .i64 (v22.1+1)
     some (.inl (v41,(v22.1,v39))))else
    let v41:Int:=wrap .i64 (v22.1+1)
    some (.inl (v41,v22.2)))else
   Option.map Sum.inr (
    (gin (v11).length v14.1).bind fun _=>
    (gget (0,0) v11 v14.1).bind fun v26=>
    let v27:List (Int×Int):=[v26]
    let v28:Bool:=decide (0<=v22.2.1)
    bif v28 then(
     (gin (v11).length v22.2.1).bind fun _=>
     (gget (0,0) v11 v22.2.1).bind fun v30=>
     let v31:List (Int×Int):=[v30]
     (gapp 16 v27 v31).bind fun v32=>
     (gin (v14.2.2).length v22.2.1).bind fun _=>
     (gget false v14.2.2 v22.2.1).bind fun v34=>
     let v35:Bool:=true
     let v36:List Bool:=gset v14.2.2 v22.2.1 v35
     let v37:List (Int×(Int×List (Int×Int))):=[(3,(0,v32))]
     (gapp 40 v14.2.1 v37).bind fun v38=>
     let v39:Int:=wrap .i64 (v14.1+1)
     some (.inl (v39,(v38,v36))))else
    let v29:List (Int×(Int×List (Int×Int))):=[(3,(0,v27))]
    (gapp 40 v14.2.1 v29).bind fun v30=>
    let v31:Int:=wrap .i64 (v14.1+1)
    some (.inl (v31,(v30,v14.2.2))))) (v21,((-1),(-1))))else
 Option.map Sum.inr (
  let v17:Int:=((v14.2.1).length:Int)
  let v18:Bool:=decide (v17<=64)
  some (v14.2.1,v18)))
theorem pkG_scan {n:Net}(hb:NetB n)(hn:netP n=true)(les:List Le)(bs:List Blk)(U:List Bool)(i:Nat)(ho:∀x∈les,leOk n x)(hl:les.length<=1000)(hU:U.length=les.length)(hi:i<les.length)(hf:bAu U i=false)(hbl:bs.length<64)(I:List Nat)(hI:I=lft les.length U (i+1))(e:Le)(hee:e=leAt les i)(rest:List Le)(hre:rest=I.map (leAt les)):
 pkG n les ((i:Int),(bs,U))=some (.inl (if 0<=(scP n e rest rest.length).1 then(((i+1:Nat):Int),(bs++[(3,(0,[e,leAt rest (scP n e rest rest.length).1.toNat]))],U.set (I.getD (scP n e rest rest.length).1.toNat 0) true))else(((i+1:Nat):Int),(bs++[(3,(0,[e]))],U)))):=by
 have he:leOk n e:=by rw[hee];exact ho _ (leAt_mem hi)
 have hIl:I.length<=les.length - (i+1):=by rw[hI];exact lft_len _ _ _
 have hrl:rest.length=I.length:=by rw[hre,List.length_map]
 have hge:gget ((0,0):Le) les (i:Int)=some e:=by rw[le_get hi,hee]
 have hgi:gin les.length (i:Int)=some ():=gin_nat hi;unfold pkG
 try dsimp only
 rw[dt (show(i:Int)<(les.length:Int)by omega),cond_true,gin_nat (show i<U.length by omega),bAu_get (by omega),hf];simp only[Option.bind_some];rw[cond_false,df (show ¬(bs.length:Int)=64 by omega),cond_false,wrap_ok (by omega)];have e0:((i:Int)+1,((-1:Int),(-1:Int)))=(fun t:Nat=>(((i+1+t:Nat):Int),(absI I (scP n e rest (cntF U (i+1) t)).1,(scP n e rest (cntF U (i+1) t)).2))) 0:=by
  simp[cntF,scP,absI]
 rw[e0];refine loop_upto (les.length - (i+1)) (fun t:Nat=>(((i+1+t:Nat):Int),(absI I (scP n e rest (cntF U (i+1) t)).1,(scP n e rest (cntF U (i+1) t)).2))) (fun t ht=> ?_) ?_
 ·have hj:i+1+t<les.length:=by omega
  have hs:=cntF_succ U (i+1) t;have hw:wrap .i64 (((i+1+t:Nat):Int)+1)=((i+1+(t+1):Nat):Int):=by rw[wrap_ok (by omega)];omega
  try dsimp only
  rw[dt (show((i+1+t:Nat):Int)<(les.length:Int)by omega),cond_true,gin_nat (show i+1+t<U.length by omega),bAu_get (show i+1+t<U.length by omega)];simp only[Option.bind_some];cases hu:bAu U (i+1+t)with
  | true=>
   rw[hu,if_pos rfl]at hs;rw[cond_true,hs,hw]
  | false=>
   rw[hu,if_neg (by simp)]at hs;obtain⟨a1,a2⟩:=lft_at U hj hu;rw[<-hI]at a1 a2;have hr:leAt rest (cntF U (i+1) t)=leAt les (i+1+t):=by rw[hre,leAt_map les a1,a2]
   have hro:=ho _ (leAt_mem hj);have hgj:gget ((0,0):Le) les ((i+1+t:Nat):Int)=some (leAt les (i+1+t)):=le_get hj;have hgj2:gin les.length ((i+1+t:Nat):Int)=some ():=gin_nat hj;rw[cond_false,hge,hgj,hgi,hgj2];simp only[Option.bind_some];rw[pins_spec hb hn (les2 he hro) (by simp)];simp only[Option.bind_some];rw[hs];show _=some (Sum.inl (((i+1+(t+1):Nat):Int),(absI I (if(pinsP n [e,leAt rest (cntF U (i+1) t)]).length<=5/\(scP n e rest (cntF U (i+1) t)).2<com n e (leAt rest (cntF U (i+1) t))then(((cntF U (i+1) t:Nat):Int),com n e (leAt rest (cntF U (i+1) t)))else scP n e rest (cntF U (i+1) t)).1,(if(pinsP n [e,leAt rest (cntF U (i+1) t)]).length<=5/\(scP n e rest (cntF U (i+1) t)).2<com n e (leAt rest (cntF U (i+1) t))then(((cntF U (i+1) t:Nat):Int),com n e (leAt rest (cntF U (i+1) t)))else scP n e rest (cntF U (i+1) t)).2)));rw[hr];by_cases c1:5<((pinsP n [e,leAt les (i+1+t)]).length:Int)
   ·rw[dt c1,cond_true,if_neg (fun q=>by omega),hw]
   ·rw[df c1,cond_false,com_spec hn he hro];simp only[Option.bind_some];by_cases c2:(scP n e rest (cntF U (i+1) t)).2<com n e (leAt les (i+1+t))
    ·have e1:absI I ((cntF U (i+1) t:Nat):Int)=((i+1+t:Nat):Int):=by
      unfold absI;rw[if_neg (by omega),Int.toNat_natCast,a2]
     rw[dt c2,cond_true,if_pos ⟨by omega,c2⟩,hw,e1]
    ·rw[df c2,cond_false,if_neg (fun q=>c2 q.2),hw]
 ·have hc:cntF U (i+1) (les.length - (i+1))=rest.length:=by rw[hrl,hI];rfl
  have hsc:=scP_ok hn he rest rest.length;rw[hc];generalize scP n e rest rest.length=s at*;have hlen:((i+1+(les.length - (i+1)):Nat):Int)=(les.length:Int):=by omega
  try dsimp only
  rw[hlen,df (show ¬(les.length:Int)<(les.length:Int)by omega),cond_false];refine mapS ?_
  rw[hge,hgi];simp only[Option.bind_some];by_cases c:s.1<0
  ·have e1:absI I s.1= -1:=by unfold absI;rw[if_pos c]
   rw[e1,df (show ¬(0:Int)≤-1 by omega),cond_false,if_neg (show ¬0<=s.1 by omega),gapp40 (by simp only[List.length_cons,List.length_nil];omega)];rfl
  ·obtain⟨b,hb'⟩:∃b:Nat,s.1=(b:Int):=⟨s.1.toNat,by omega⟩;have hbI:b<I.length:=by omega
   have hm:I.getD b 0∈I:=by rw[List.getD,List.getElem?_eq_getElem hbI];exact List.getElem_mem hbI
   have ha:I.getD b 0<les.length:=by
    have q:∀j∈I,j<les.length:=fun j hj=>by rw[hI]at hj;exact(lft_mem hj).2.1
    exact q _ hm
   have hr:leAt rest b=leAt les (I.getD b 0):=by rw[hre,leAt_map les hbI]
   have e1:absI I s.1=((I.getD b 0:Nat):Int):=by unfold absI;rw[if_neg c,hb',Int.toNat_natCast]
   rw[e1,dt (show(0:Int)<=((I.getD b 0:Nat):Int)by omega),cond_true,if_pos (show 0<=s.1 by omega),gin_nat ha,le_get ha,hb',Int.toNat_natCast,hr];generalize I.getD b 0=a at*;simp only[Option.bind_some];rw[gapp16l (by simp),gin_nat (show a<U.length by omega),bAu_get (show a<U.length by omega)];simp only[Option.bind_some];rw[gapp40 (by simp only[List.length_cons,List.length_nil];omega),gset_nat];rfl
theorem pkG_run {n:Net}(hb:NetB n)(hn:netP n=true)(les:List Le)(ho:∀x∈les,leOk n x)(hl:les.length<=1000):∀(m i:Nat) (bs:List Blk) (U:List Bool) (out:List Blk),i+m=les.length->U.length=les.length->bs.length<=64->Packs n bs ((lft les.length U i).map (leAt les)) out->loop (pkG n les) ((i:Int),(bs,U))=some (finP out)
 | 0,i,bs,U,out,hm,hU,hbl,hp=>by
  have e:i=les.length:=by omega
  subst e;rw[lft_end]at hp;have eo:out=bs:=by cases hp;rfl
  subst eo;refine loop_inr ?_
  unfold pkG finP
  try dsimp only
  rw[df (show ¬(les.length:Int)<(les.length:Int)by omega),cond_false,dt (show(out.length:Int)<=64 by omega),if_neg (by omega)];rfl
 | m+1,i,bs,U,out,hm,hU,hbl,hp=>by
  have hi:i<les.length:=by omega
  cases hf:bAu U i with
  | true=>
   rw[lft_cons hi,if_pos hf]at hp;have hs:pkG n les ((i:Int),(bs,U))=some (.inl (((i+1:Nat):Int),(bs,U))):=by
    unfold pkG
    try dsimp only
    rw[dt (show(i:Int)<(les.length:Int)by omega),cond_true,gin_nat (show i<U.length by omega),bAu_get (by omega),hf];simp only[Option.bind_some];rw[cond_true,wrap_ok (by omega)];rfl
   rw[loop_inl hs];exact pkG_run hb hn les ho hl m (i+1) bs U out (by omega) hU hbl hp
  | false=>
   rw[lft_cons hi,if_neg (by simp[hf])]at hp;by_cases c64:bs.length=64
   ·have hg:=(packs_grow hp).2.1 (by simp);refine loop_inr ?_
    unfold pkG finP
    try dsimp only
    rw[dt (show(i:Int)<(les.length:Int)by omega),cond_true,gin_nat (show i<U.length by omega),bAu_get (by omega),hf];simp only[Option.bind_some];rw[cond_false,dt (show(bs.length:Int)=64 by omega),cond_true,if_pos (by omega)];rfl
   ·have hs:=pkG_scan hb hn les bs U i ho hl hU hi hf (by omega) _ rfl _ rfl _ rfl;rw[List.map_cons]at hp;generalize hI:lft les.length U (i+1)=I at*;generalize hre:I.map (leAt les)=rest at*;have hrl:rest.length=I.length:=by rw[<-hre,List.length_map]
    generalize hee:leAt les i=e at*;cases hp with
    | two _ _ _ b _ h1 h2 h3=>
     rw[h1,if_pos (by omega),Int.toNat_natCast]at hs;rw[loop_inl hs];refine pkG_run hb hn les ho hl m (i+1) _ _ out (by omega) (by rw[List.length_set];exact hU) (by simp only[List.length_append,List.length_cons,List.length_nil];omega) ?_
     have h4:=lft_set (i:=i+1) hU (b:=b) (by rw[hI];omega);rw[hI]at h4;rw[h4,List.map_append,List.map_take,List.map_drop,hre];exact h3
    | one _ _ _ _ h1 h2=>
     rw[if_neg (by omega)]at hs;rw[loop_inl hs];refine pkG_run hb hn les ho hl m (i+1) _ _ out (by omega) hU (by simp only[List.length_append,List.length_cons,List.length_nil];omega) ?_
     rw[hI,hre];exact h2
end Go.Pf
/-
  Own work. Packing, plainly: both functions.
-/
namespace Go.Pf
open Go Go.Pu
set_option linter.unusedVariables false
def pdA:Nat->List Blk
 | 0=>[]
 | k+1=>pdA k++[(0,((k:Int),[]))]
def otA (n:Net):Nat->List Blk
 | 0=>pdA n.1.toNat
 | k+1=>otA n k++[(1,((k:Int),[]))]
def sqA (n:Net):Nat->List Blk
 | 0=>otA n n.2.2.2.length
 | k+1=>if(sqAt n.2.1 k).1=1 then sqA n k++[(2,((k:Int),[]))]else sqA n k
def B2 (bs:List Blk):Prop:=∀b∈bs,b.2.2.length<=2
theorem B2.app {bs:List Blk}(h:B2 bs){x:Blk}(hx:x.2.2.length<=2):B2 (bs++[x]):=fun b hb=>by
 rcases List.mem_append.1 hb with q | q
 ·exact h b q
 ·rw[List.mem_singleton]at q;rw[q];exact hx
theorem pdA_ok (k:Nat):(pdA k).length=k/\B2 (pdA k):=by
 induction k with
 | zero=>exact⟨rfl,fun b hb=>by cases hb⟩
 | succ k ih=>
  show(pdA k++[(0,((k:Int),[]))]).length=_/\B2 (pdA k++[(0,((k:Int),[]))]);exact⟨by rw[List.length_append];simp only[List.length_cons,List.length_nil];omega,ih.2.app (by simp)⟩
theorem otA_ok (n:Net)(k:Nat):(otA n k).length=n.1.toNat+k/\B2 (otA n k):=by
 induction k with
 | zero=>exact pdA_ok _
 | succ k ih=>
  show(otA n k++[(1,((k:Int),[]))]).length=_/\B2 (otA n k++[(1,((k:Int),[]))]);exact⟨by rw[List.length_append];simp only[List.length_cons,List.length_nil];omega,ih.2.app (by simp)⟩
theorem sqA_ok (n:Net)(k:Nat):(sqA n k).length<=n.1.toNat+n.2.2.2.length+k/\B2 (sqA n k):=by
 induction k with
 | zero=>
  have:=otA_ok n n.2.2.2.length;exact⟨by show(otA n n.2.2.2.length).length<=_;omega,this.2⟩
 | succ k ih=>
  show(if(sqAt n.2.1 k).1=1 then sqA n k++[(2,((k:Int),[]))]else sqA n k).length<=_/\B2 (if(sqAt n.2.1 k).1=1 then sqA n k++[(2,((k:Int),[]))]else sqA n k);split
  ·exact⟨by rw[List.length_append];simp only[List.length_cons,List.length_nil];omega,ih.2.app (by simp)⟩
  ·exact⟨by omega,ih.2⟩
theorem pack_run2 (n:Net)(hb:NetB n):(netP n=false/\impl_Pack n=some ([],false)/\spec_Pack n=some ([],false))\/(netP n=true/\∃out,Packs n (sqA n n.2.1.length) (elP n) out/\impl_Pack n=some (finP out)/\spec_Pack n=some (finP out)):=by
 cases hn:netP n with
 | false=>
  refine .inl ⟨rfl,?_,?_⟩
  ·unfold impl_Pack;rw[net_impl n hb,hn];rfl
  ·unfold spec_Pack;rw[net_spec n hb,hn];rfl
 | true=>
  obtain⟨hln,_⟩:=netP_all hn;obtain⟨l1,l2,l3,l4⟩:=hln;obtain⟨hel,heo⟩:=elL_ok hn n.2.2.1.length (Nat.le_refl _)
  change (elP n).length<=_ at hel
  change ∀e∈elP n,leOk n e at heo
  obtain⟨hsq,hs2⟩:=sqA_ok n n.2.1.length;obtain⟨out,hp⟩:=packs_ex hn (elP n).length (sqA n n.2.1.length) (elP n) (Nat.le_refl _) heo;refine .inr ⟨rfl,out,hp,?_,?_⟩
  ·unfold impl_Pack;rw[net_impl n hb,hn];simp only[Option.bind_some];rw[Bool.not_true,cond_false];refine loop_upto n.1.toNat (fun k=>(pdA k,(k:Int))) (fun k hk=> ?_) ?_
   ·have hpl:=(pdA_ok k).1
    try dsimp only
    rw[dt (show(k:Int)<n.1 by omega),cond_true,gapp40 (by simp only[List.length_cons,List.length_nil];omega)];simp only[Option.bind_some];rw[wrap_ok (by omega)];rfl
   try dsimp only
   rw[df (show ¬((n.1.toNat:Nat):Int)<n.1 by omega),cond_false];refine mapS ?_
   refine loop_upto n.2.2.2.length (fun k=>((k:Int),otA n k)) (fun k hk=> ?_) ?_
   ·have hpl:=(otA_ok n k).1
    try dsimp only
    rw[dt (show(k:Int)<(n.2.2.2.length:Int)by omega),cond_true,gapp40 (by simp only[List.length_cons,List.length_nil];omega)];simp only[Option.bind_some];rw[wrap_ok (by omega)];rfl
   try dsimp only
   rw[df (show ¬(n.2.2.2.length:Int)<(n.2.2.2.length:Int)by omega),cond_false];refine mapS ?_
   refine loop_upto n.2.1.length (fun k=>((k:Int),sqA n k)) (fun k hk=> ?_) ?_
   ·have hpl:=(sqA_ok n k).1
    try dsimp only
    rw[dt (show(k:Int)<(n.2.1.length:Int)by omega),cond_true,(sq_get hk).1];simp only[Option.bind_some];show _=some (Sum.inl (((k+1:Nat):Int),if(sqAt n.2.1 k).1=1 then sqA n k++[(2,((k:Int),[]))]else sqA n k));by_cases c:(sqAt n.2.1 k).1=1
    ·rw[dt c,cond_true,if_pos c,gapp40 (by simp only[List.length_cons,List.length_nil];omega)];simp only[Option.bind_some];rw[wrap_ok (by omega)];rfl
    ·rw[df c,cond_false,if_neg c,wrap_ok (by omega)];rfl
   try dsimp only
   rw[df (show ¬(n.2.1.length:Int)<(n.2.1.length:Int)by omega),cond_false];refine mapS ?_
   rw[el_impl hb hn];simp only[Option.bind_some];exact pkF_run hb hn hp heo (by omega)
  ·unfold spec_Pack;rw[net_spec n hb,hn];simp only[Option.bind_some];rw[Bool.not_true,cond_false];refine loop_upto n.1.toNat (fun k=>((k:Int),pdA k)) (fun k hk=> ?_) ?_
   ·have hpl:=(pdA_ok k).1
    try dsimp only
    rw[dt (show(k:Int)<n.1 by omega),cond_true,gapp40 (by simp only[List.length_cons,List.length_nil];omega)];simp only[Option.bind_some];rw[wrap_ok (by omega)];rfl
   try dsimp only
   rw[df (show ¬((n.1.toNat:Nat):Int)<n.1 by omega),cond_false];refine mapS ?_
   refine loop_upto n.2.2.2.length (fun k=>((k:Int),otA n k)) (fun k hk=> ?_) ?_
   ·have hpl:=(otA_ok n k).1
    try dsimp only
    rw[dt (show(k:Int)<(n.2.2.2.length:Int)by omega),cond_true,gapp40 (by simp only[List.length_cons,List.length_nil];omega)];simp only[Option.bind_some];rw[wrap_ok (by omega)];rfl
   try dsimp only
   rw[df (show ¬(n.2.2.2.length:Int)<(n.2.2.2.length:Int)by omega),cond_false];refine mapS ?_
   refine loop_upto n.2.1.length (fun k=>((k:Int),sqA n k)) (fun k hk=> ?_) ?_
   ·have hpl:=(sqA_ok n k).1
    try dsimp only
    rw[dt (show(k:Int)<(n.2.1.length:Int)by omega),cond_true,(sq_get hk).1];simp only[Option.bind_some];show _=some (Sum.inl (((k+1:Nat):Int),if(sqAt n.2.1 k).1=1 then sqA n k++[(2,((k:Int),[]))]else sqA n k));by_cases c:(sqAt n.2.1 k).1=1
    ·rw[dt c,cond_true,if_pos c,gapp40 (by simp only[List.length_cons,List.length_nil];omega)];simp only[Option.bind_some];rw[wrap_ok (by omega)];rfl
    ·rw[df c,cond_false,if_neg c,wrap_ok (by omega)];rfl
   try dsimp only
   rw[df (show ¬(n.2.1.length:Int)<(n.2.1.length:Int)by omega),cond_false];refine mapS ?_
   rw[el_spec hb hn];simp only[Option.bind_some];rw[gmake_nat (by omega) (by omega)];simp only[Option.bind_some];have hU:∀j,bAu (List.replicate (elP n).length false) j=false:=fun j=>by
    unfold bAu;rw[List.getD,List.getElem?_replicate];split<;>rfl
   have hl:(lft (elP n).length (List.replicate (elP n).length false) 0).map (leAt (elP n))=elP n:=by
    unfold lft;rw[List.filter_eq_self.2 (fun j _=>by rw[hU j];rfl)];refine List.ext_getElem (by simp) fun j h1 h2=> ?_
    simp only[List.getElem_map,List.getElem_range',Nat.zero_add,Nat.one_mul];exact(le_eq h2).symm
   refine pkG_run hb hn (elP n) heo (by omega) (elP n).length 0 _ _ out (by omega) (by simp) (by omega) ?_
   rw[hl];exact hp
end Go.Pf
/-
  Own work. Packings, plainly: what the packer gives is legal and holds every item once.
-/
namespace Go.Pf
open Go Go.Pu
set_option linter.unusedVariables false
theorem inc1_at {c:List Int}{x:Int}(x0:0<=x)(x1:x<(c.length:Int))(j:Nat):nsAt (inc1 c x) j=if x=(j:Int)then wrap .i64 (nsAt c j+1)else nsAt c j:=by
 unfold inc1 gset nsAt;by_cases h:x=(j:Int)
 ·subst h;rw[if_pos rfl,List.getD,Int.toNat_natCast,List.getElem?_set_self (by omega)];rfl
 ·rw[if_neg h,List.getD,List.getElem?_set_ne (by omega)];rfl
theorem incL_at:∀(xs:List Int) (c:List Int),(∀x∈xs,0<=x/\x<(c.length:Int))->∀j:Nat,0<=nsAt c j->nsAt c j+(xs.count (j:Int):Nat)<=1000000000->nsAt (incL c xs) j=nsAt c j+(xs.count (j:Int):Nat)
 | [],c,_,j,_,_=>by simp[incL]
 | x::xs,c,h,j,h0,h1=>by
  have hx:=h x (by simp);have e:incL c (x::xs)=incL (inc1 c x) xs:=rfl;have ea:=inc1_at hx.1 hx.2 j;rw[List.count_cons]at h1 ⊢;by_cases hj:x=(j:Int)
  ·rw[if_pos hj,wrap_ok (by omega)]at ea;rw[if_pos (by simp[hj])]at h1 ⊢;rw[e,incL_at xs (inc1 c x) (fun y hy=>by rw[inc1_len];exact h y (by simp[hy])) j (by omega) (by omega),ea];omega
  ·rw[if_neg hj]at ea;rw[if_neg (by simp[hj])]at h1 ⊢;rw[e,incL_at xs (inc1 c x) (fun y hy=>by rw[inc1_len];exact h y (by simp[hy])) j (by omega) (by omega),ea];omega
theorem nsAt_rep0 (N j:Nat):nsAt (List.replicate N 0) j=0:=by
 unfold nsAt;rw[List.getD,List.getElem?_replicate];split<;>rfl
theorem once_of {N:Nat}{xs:List Int}(h:∀x∈xs,0<=x/\x<(N:Int))(h1:∀j:Nat,j<N->xs.count (j:Int)=1):once (incL (List.replicate N 0) xs)=true:=by
 unfold once;refine List.all_eq_true.2 fun v hv=>decide_eq_true ?_
 obtain⟨j,hj,rfl⟩:=List.getElem_of_mem hv;rw[incL_len,List.length_replicate]at hj;have e:=nsAt_rep0 N j;rw[ns_at (by rw[incL_len,List.length_replicate];exact hj),incL_at xs _ (by rw[List.length_replicate];exact h) j (by omega) (by rw[h1 j hj];omega),e,h1 j hj];rfl
theorem incL_app (c xs ys:List Int):incL c (xs++ys)=incL (incL c xs) ys:=List.foldl_append
theorem incA_L (c:List Int)(f:Nat->List Int)(k:Nat):incA c f k=incL c ((List.range k).flatMap f):=by
 induction k with
 | zero=>rfl
 | succ k ih=>
  show incL (incA c f k) (f k)=_;rw[ih,List.range_succ,List.flatMap_append,incL_app];simp
def lf1 (e:Le):List Int:=if 0<=e.1 then [e.1]else []
def lf2 (e:Le):List Int:=if 0<=e.2 then [e.2]else []
def i0 (b:Blk):List Int:=if b.1=0 then [b.2.1]else []
def i1 (b:Blk):List Int:=if b.1=1 then [b.2.1]else []
def i2 (b:Blk):List Int:=(if b.1=2 then [b.2.1]else [])++b.2.2.flatMap lf2
def i3 (b:Blk):List Int:=b.2.2.flatMap lf1
theorem leT_L (ls:List Le):∀s:List Int×List Int,ls.foldl leT s=(incL s.1 (ls.flatMap lf2),incL s.2 (ls.flatMap lf1)):=by
 induction ls with
 | nil=>intro s;rfl
 | cons e r ih=>
  intro s;rw[List.foldl_cons,ih,List.flatMap_cons,List.flatMap_cons,incL_app,incL_app];unfold leT lf1 lf2;split<;>split<;>rfl
theorem pkT_L (s:P4)(b:Blk):pkT s b=(incL s.1 (i0 b),(incL s.2.1 (i1 b),(incL s.2.2.1 (i2 b),incL s.2.2.2 (i3 b)))):=by
 unfold pkT leA;rw[List.take_length,leT_L];unfold kindT i0 i1 i2 i3;rw[incL_app];by_cases k0:b.1=0
 ·rw[if_pos k0,if_pos k0,if_neg (show ¬b.1=1 by omega),if_neg (show ¬b.1=2 by omega)];rfl
 rw[if_neg k0,if_neg k0];by_cases k1:b.1=1
 ·rw[if_pos k1,if_pos k1,if_neg (show ¬b.1=2 by omega)];rfl
 rw[if_neg k1,if_neg k1];by_cases k2:b.1=2
 ·rw[if_pos k2,if_pos k2];rfl
 rw[if_neg k2,if_neg k2];rfl
theorem pkF_L (bs:List Blk):∀s:P4,bs.foldl pkT s=(incL s.1 (bs.flatMap i0),(incL s.2.1 (bs.flatMap i1),(incL s.2.2.1 (bs.flatMap i2),incL s.2.2.2 (bs.flatMap i3)))):=by
 induction bs with
 | nil=>intro s;rfl
 | cons b r ih=>
  intro s;rw[List.foldl_cons,ih,pkT_L];simp only[List.flatMap_cons,incL_app]
theorem pkA_L (n:Net)(bs:List Blk):pkA n bs bs.length=(incL (pk0 n).1 (bs.flatMap i0),(incL (pk0 n).2.1 (bs.flatMap i1),(incL (pk0 n).2.2.1 (bs.flatMap i2),incL (pk0 n).2.2.2 (bs.flatMap i3)))):=by
 unfold pkA;rw[List.take_length,pkF_L]
theorem scP_pins (n:Net)(e:Le)(rest:List Le):∀(k b:Nat),(scP n e rest k).1=(b:Int)->b<k/\(pinsP n [e,leAt rest b]).length<=5
 | 0,b,h=>by simp only[scP]at h;omega
 | k+1,b,h=>by
  unfold scP at h;split at h
  ·rename_i hc;have e:k=b:=by simp only at h;omega
   subst e;exact⟨by omega,hc.1⟩
  ·have:=scP_pins n e rest k b h;exact⟨by omega,this.2⟩
theorem bk1 {n:Net}(h:netP n=true){e:Le}(he:leOk n e):bkOk n (3,(0,[e]))=true:=by
 have h1:=insA_len h (les1 he) 1 (by simp);have h2:=setP_len (insA n [e] 1) (outsL n [e] 1);have h3:(pinsP n [e]).length<=5:=by
  unfold pinsP;simp only[List.length_cons,List.length_nil,Nat.zero_add];omega
 unfold bkOk itemP blk0;simp[les1 he,h3]
theorem bk2 {n:Net}{e r:Le}(he:leOk n e)(hr:leOk n r)(h3:(pinsP n [e,r]).length<=5):bkOk n (3,(0,[e,r]))=true:=by
 unfold bkOk itemP blk0;simp[les2 he hr,h3]
theorem packs_bk {n:Net}(h:netP n=true){bs:List Blk}{left:List Le}{out:List Blk}(hp:Packs n bs left out):(∀b∈bs,bkOk n b=true)->(∀e∈left,leOk n e)->∀b∈out,bkOk n b=true:=by
 induction hp with
 | nil bs=>exact fun h1 _=>h1
 | two bs e rest b out h1 h2 _ ih=>
  intro hb hl;have hr:leAt rest b∈rest:=by rw[<-le_eq h2];exact List.getElem_mem h2
  refine ih (fun x hx=> ?_) (fun x hx=> ?_)
  ·rcases List.mem_append.1 hx with q | q
   ·exact hb x q
   ·rw[List.mem_singleton.1 q];exact bk2 (hl e (by simp)) (hl _ (List.mem_cons_of_mem _ hr)) (scP_pins n e rest _ b h1).2
  ·rcases List.mem_append.1 hx with q | q
   ·exact hl x (List.mem_cons_of_mem _ (List.mem_of_mem_take q))
   ·exact hl x (List.mem_cons_of_mem _ (List.mem_of_mem_drop q))
 | one bs e rest out h1 _ ih=>
  intro hb hl;refine ih (fun x hx=> ?_) (fun x hx=>hl x (List.mem_cons_of_mem _ hx));rcases List.mem_append.1 hx with q | q
  ·exact hb x q
  ·rw[List.mem_singleton.1 q];exact bk1 h (hl e (by simp))
theorem packs_cnt {n:Net}{f:Blk->List Int}{g:Le->List Int}(hf:∀ls,f (3,(0,ls))=ls.flatMap g){bs:List Blk}{left:List Le}{out:List Blk}(hp:Packs n bs left out)(x:Int):(out.flatMap f).count x=(bs.flatMap f).count x+(left.flatMap g).count x:=by
 induction hp with
 | nil bs=>simp
 | two bs e rest b out h1 h2 _ ih=>
  have hr:rest=rest.take b++(leAt rest b::rest.drop (b+1)):=by
   rw[<-le_eq h2,List.getElem_cons_drop,List.take_append_drop]
  rw[ih,List.flatMap_append,List.count_append,List.flatMap_append,List.count_append];have e2:((e::rest).flatMap g).count x=(g e).count x+(((rest.take b).flatMap g).count x+((g (leAt rest b)).count x+((rest.drop (b+1)).flatMap g).count x)):=by
   conv=>lhs;rw[hr]
   rw[List.flatMap_cons,List.count_append,List.flatMap_append,List.count_append,List.flatMap_cons,List.count_append]
  rw[e2];simp only[List.flatMap_cons,List.flatMap_nil,List.append_nil,hf,List.count_append];omega
 | one bs e rest out h1 _ ih=>
  rw[ih,List.flatMap_append,List.count_append];simp only[List.flatMap_cons,List.flatMap_nil,List.append_nil,hf,List.count_append];omega
def lgc (bs:List Blk):Nat:=bs.countP fun b=>decide (b.1=3)
theorem packs_len {n:Net}{bs:List Blk}{left:List Le}{out:List Blk}(hp:Packs n bs left out):lgc out+bs.length=lgc bs+out.length/\out.length<=bs.length+left.length:=by
 induction hp with
 | nil bs=>exact⟨rfl,by simp⟩
 | two bs e rest b out h1 h2 _ ih=>
  obtain⟨q1,q2⟩:=ih;have e1:lgc (bs++[(3,(0,[e,leAt rest b]))])=lgc bs+1:=by unfold lgc;rw[List.countP_append];rfl
  rw[e1]at q1;simp only[List.length_append,List.length_cons,List.length_nil,List.length_take,List.length_drop]at q1 q2 ⊢;omega
 | one bs e rest out h1 _ ih=>
  obtain⟨q1,q2⟩:=ih;have e1:lgc (bs++[(3,(0,[e]))])=lgc bs+1:=by unfold lgc;rw[List.countP_append];rfl
  rw[e1]at q1;simp only[List.length_append,List.length_cons,List.length_nil]at q1 q2 ⊢;omega
def rmP (n:Net):Nat->Nat
 | 0=>0
 | k+1=>if(sqAt n.2.1 k).1=1 then rmP n k+1 else rmP n k
theorem pdA_all (k:Nat):(∀b∈pdA k,∃j:Nat,j<k/\b=(0,((j:Int),[])))/\∀x:Int,((pdA k).flatMap i0).count x=if 0<=x/\x<(k:Int)then 1 else 0:=by
 induction k with
 | zero=>exact⟨fun b hb=>(by cases hb),fun x=>by rw[if_neg (by omega)];rfl⟩
 | succ k ih=>
  refine⟨fun b hb=> ?_,fun x=> ?_⟩
  ·rcases List.mem_append.1 (show b∈pdA k++[(0,((k:Int),[]))]from hb)with q | q
   ·obtain⟨j,h1,h2⟩:=ih.1 b q;exact⟨j,by omega,h2⟩
   ·exact⟨k,by omega,List.mem_singleton.1 q⟩
  ·show((pdA k++[(0,((k:Int),[]))]).flatMap i0).count x=_;rw[List.flatMap_append,List.count_append,ih.2 x];show _+([(k:Int)]).count x=_;rw[List.count_singleton];by_cases c:x=(k:Int)
   ·subst c;rw[if_neg (by omega),if_pos (by simp),if_pos (by omega)]
   ·rw[if_neg (show ¬((k:Int)==x)=true by simp;omega)];by_cases c2:0<=x/\x<(k:Int)
    ·rw[if_pos c2,if_pos (by omega)]
    ·rw[if_neg c2,if_neg (by omega)]
theorem cnt_none {f:Blk->List Int}:∀{bs:List Blk},(∀b∈bs,f b=[])->bs.flatMap f=[]
 | [],_=>rfl
 | b::bs,h=>by rw[List.flatMap_cons,h b (by simp),cnt_none (fun x hx=>h x (by simp[hx]))];rfl
theorem otA_all (n:Net)(k:Nat):(∀b∈otA n k,(∃j:Nat,j<n.1.toNat/\b=(0,((j:Int),[])))\/∃j:Nat,j<k/\b=(1,((j:Int),[])))/\(otA n k).flatMap i0=(pdA n.1.toNat).flatMap i0/\∀x:Int,((otA n k).flatMap i1).count x=if 0<=x/\x<(k:Int)then 1 else 0:=by
 induction k with
 | zero=>
  refine⟨fun b hb=> .inl ((pdA_all _).1 b hb),rfl,fun x=> ?_⟩;rw[if_neg (by omega)];show((pdA n.1.toNat).flatMap i1).count x=0;rw[cnt_none fun b hb=>by obtain⟨j,_,rfl⟩:=(pdA_all _).1 b hb;rfl];rfl
 | succ k ih=>
  refine⟨fun b hb=> ?_,?_,fun x=> ?_⟩
  ·rcases List.mem_append.1 (show b∈otA n k++[(1,((k:Int),[]))]from hb)with q | q
   ·rcases ih.1 b q with h | ⟨j,h1,h2⟩
    ·exact .inl h
    ·exact .inr ⟨j,by omega,h2⟩
   ·exact .inr ⟨k,by omega,List.mem_singleton.1 q⟩
  ·show(otA n k++[(1,((k:Int),[]))]).flatMap i0=_;rw[List.flatMap_append,ih.2.1];exact List.append_nil _
  ·show((otA n k++[(1,((k:Int),[]))]).flatMap i1).count x=_;rw[List.flatMap_append,List.count_append,ih.2.2 x];show _+([(k:Int)]).count x=_;rw[List.count_singleton];by_cases c:x=(k:Int)
   ·subst c;rw[if_neg (by omega),if_pos (by simp),if_pos (by omega)]
   ·rw[if_neg (show ¬((k:Int)==x)=true by simp;omega)];by_cases c2:0<=x/\x<(k:Int)
    ·rw[if_pos c2,if_pos (by omega)]
    ·rw[if_neg c2,if_neg (by omega)]
def kdC (n:Net)(kd:Int)(k:Nat)(x:Int):Nat:=if 0<=x/\x<(k:Int)/\(sqAt n.2.1 x.toNat).1=kd then 1 else 0
theorem kdC_succ (n:Net)(kd:Int)(k:Nat)(x:Int):kdC n kd (k+1) x=kdC n kd k x+if x=(k:Int)/\(sqAt n.2.1 k).1=kd then 1 else 0:=by
 unfold kdC;by_cases c:x=(k:Int)
 ·subst c;rw[if_neg (show ¬(0<=(k:Int)/\(k:Int)<(k:Int)/\(sqAt n.2.1 (k:Int).toNat).1=kd)by omega),Int.toNat_natCast];by_cases c2:(sqAt n.2.1 k).1=kd
  ·rw[if_pos ⟨by omega,by omega,c2⟩,if_pos ⟨rfl,c2⟩]
  ·rw[if_neg (fun h=>c2 h.2.2),if_neg (fun h=>c2 h.2)]
 ·rw[if_neg (show ¬(x=(k:Int)/\(sqAt n.2.1 k).1=kd)from fun h=>c h.1)];by_cases c2:0<=x/\x<(k:Int)/\(sqAt n.2.1 x.toNat).1=kd
  ·rw[if_pos c2,if_pos ⟨c2.1,by omega,c2.2.2⟩]
  ·rw[if_neg c2,if_neg (fun h=>c2 ⟨h.1,by omega,h.2.2⟩)]
theorem sqA_all (n:Net)(k:Nat):(∀b∈sqA n k,(∃j:Nat,j<n.1.toNat/\b=(0,((j:Int),[])))\/(∃j:Nat,j<n.2.2.2.length/\b=(1,((j:Int),[])))\/∃j:Nat,j<k/\(sqAt n.2.1 j).1=1/\b=(2,((j:Int),[])))/\(sqA n k).flatMap i0=(pdA n.1.toNat).flatMap i0/\(sqA n k).flatMap i1=(otA n n.2.2.2.length).flatMap i1/\(∀x:Int,((sqA n k).flatMap i2).count x=kdC n 1 k x)/\(sqA n k).length=n.1.toNat+n.2.2.2.length+rmP n k:=by
 induction k with
 | zero=>
  have ho:=otA_all n n.2.2.2.length;refine⟨fun b hb=> ?_,ho.2.1,rfl,fun x=> ?_,(otA_ok n n.2.2.2.length).1⟩
  ·rcases ho.1 b hb with h | h
   ·exact .inl h
   ·exact .inr (.inl h)
  ·show((otA n n.2.2.2.length).flatMap i2).count x=_;rw[cnt_none fun b hb=>by rcases ho.1 b hb with⟨j,_,rfl⟩ | ⟨j,_,rfl⟩<;>rfl];unfold kdC;rw[if_neg (by omega)];rfl
 | succ k ih=>
  obtain⟨h1,h2,h3,h4,h5⟩:=ih;have hs:sqA n (k+1)=if(sqAt n.2.1 k).1=1 then sqA n k++[(2,((k:Int),[]))]else sqA n k:=rfl
  have hr:rmP n (k+1)=if(sqAt n.2.1 k).1=1 then rmP n k+1 else rmP n k:=rfl
  by_cases c:(sqAt n.2.1 k).1=1
  ·rw[if_pos c]at hs hr;rw[hs,hr];refine⟨fun b hb=> ?_,?_,?_,fun x=> ?_,?_⟩
   ·rcases List.mem_append.1 hb with q | q
    ·rcases h1 b q with h | h | ⟨j,h,h'⟩
     ·exact .inl h
     ·exact .inr (.inl h)
     ·exact .inr (.inr ⟨j,by omega,h'⟩)
    ·exact .inr (.inr ⟨k,by omega,c,List.mem_singleton.1 q⟩)
   ·rw[List.flatMap_append,h2];exact List.append_nil _
   ·rw[List.flatMap_append,h3];exact List.append_nil _
   ·rw[List.flatMap_append,List.count_append,h4 x,kdC_succ];show _+([(k:Int)]).count x=_;rw[List.count_singleton];by_cases e:x=(k:Int)
    ·rw[if_pos (by simp[e]),if_pos ⟨e,c⟩]
    ·rw[if_neg (show ¬((k:Int)==x)=true by simp;omega),if_neg (fun h=>e h.1)]
   ·rw[List.length_append,h5];simp only[List.length_cons,List.length_nil];omega
  ·rw[if_neg c]at hs hr;rw[hs,hr];refine⟨fun b hb=> ?_,h2,h3,fun x=> ?_,h5⟩
   ·rcases h1 b hb with h | h | ⟨j,h,h'⟩
    ·exact .inl h
    ·exact .inr (.inl h)
    ·exact .inr (.inr ⟨j,by omega,h'⟩)
   ·rw[h4 x,kdC_succ,if_neg (fun h=>c h.2)];rfl
end Go.Pf
/-
  Own work. Packings, plainly: every table and every flip-flop once.
-/
namespace Go.Pf
open Go Go.Pu
set_option linter.unusedVariables false
theorem bAu_put {U:List Bool}{i:Int}(h0:0<=i)(h1:i<(U.length:Int))(j:Nat):bAu (gset U i true) j=if i=(j:Int)then true else bAu U j:=by
 unfold bAu gset;by_cases h:i=(j:Int)
 ·subst h;rw[if_pos rfl,List.getD,Int.toNat_natCast,List.getElem?_set_self (by omega)];rfl
 ·rw[if_neg h,List.getD,List.getElem?_set_ne (by omega)];rfl
theorem fmr_len {f:Nat->List Int}{m:Nat}:∀k,(∀j,j<k->(f j).length<=m)->((List.range k).flatMap f).length<=m*k
 | 0,_=>by simp
 | k+1,h=>by
  have h1:=fmr_len k (fun j hj=>h j (by omega));have h2:=h k (by omega);rw[List.range_succ,List.flatMap_append,List.length_append,Nat.mul_succ];simp only[List.flatMap_cons,List.flatMap_nil,List.append_nil];omega
theorem cnt_mem {xs:List Int}{x:Int}(h:x∈xs):1<=xs.count x:=List.count_pos_iff.2 h
theorem cnt_two {f:Nat->List Int}{x:Int}{a b:Nat}(hab:a<b)(ha:x∈f a)(hb:x∈f b):∀m,b<m->2<=((List.range m).flatMap f).count x
 | 0,h=>by omega
 | m+1,h=>by
  rw[List.range_succ,List.flatMap_append,List.count_append];simp only[List.flatMap_cons,List.flatMap_nil,List.append_nil];by_cases c:b=m
  ·subst c;have h1:=cnt_mem hb;have h2:=cnt_mem (show x∈(List.range b).flatMap f from List.mem_flatMap.2 ⟨a,List.mem_range.2 hab,ha⟩);omega
  ·have:=cnt_two hab ha hb m (by omega);omega
theorem uses_two {n:Net}(hn:netP n=true){a b:Nat}{x:Int}(hab:a<b)(hb:b<n.2.1.length)(h1:x∈(sqAt n.2.1 a).2.2)(h2:x∈(sqAt n.2.1 b).2.2):nsAt (usesP n) x.toNat≠1:=by
 obtain⟨hln,ho,hs,hl⟩:=netP_all hn;have hv:=lnV_le hln;have hlv:lnV n=fstP n+n.2.2.1.length:=rfl;have hxr:=belowP_mem (hs b hb).2 x h2;have e:usesP n=incL (List.replicate (lnV n).toNat 0) (((List.range n.2.2.1.length).flatMap fun k=>(ltAt n.2.2.1 k).1)++((List.range n.2.1.length).flatMap fun k=>(sqAt n.2.1 k).2.2)++n.2.2.2):=by
  unfold usesP;rw[incA_L,incA_L,incL_app,incL_app]
 have l1:=fmr_len (f:=fun k=>(ltAt n.2.2.1 k).1) (m:=4) n.2.2.1.length (fun j hj=>by
  have:=(hl j hj).1.1;show(ltAt n.2.2.1 j).1.length<=4;omega)
 have l2:=fmr_len (f:=fun k=>(sqAt n.2.1 k).2.2) (m:=4) n.2.1.length (fun j hj=>by
  have:=(hs j hj).1;show(sqAt n.2.1 j).2.2.length<=4;rcases this with q | q<;>omega)
 have hc:=cnt_two (f:=fun k=>(sqAt n.2.1 k).2.2) hab h1 h2 n.2.1.length hb;have hln2:=hln.2.1;have hln3:=hln.2.2.1;have hln4:=hln.2.2.2;generalize hA:((List.range n.2.2.1.length).flatMap fun k=>(ltAt n.2.2.1 k).1)=A at*;generalize hB:((List.range n.2.1.length).flatMap fun k=>(sqAt n.2.1 k).2.2)=B at*;have hin:∀y∈A++B++n.2.2.2,0<=y/\y<(((List.replicate (lnV n).toNat (0:Int)).length:Nat):Int):=fun y hy=>by
  rw[List.length_replicate];rcases List.mem_append.1 hy with hy | hy
  ·rcases List.mem_append.1 hy with hy | hy
   ·rw[<-hA]at hy;obtain⟨j,hj,hy⟩:=List.mem_flatMap.1 hy;have hj:=List.mem_range.1 hj;have:=belowP_mem (hl j hj).2 y hy;omega
   ·rw[<-hB]at hy;obtain⟨j,hj,hy⟩:=List.mem_flatMap.1 hy;have hj:=List.mem_range.1 hj;have:=belowP_mem (hs j hj).2 y hy;omega
  ·have:=belowP_mem ho y hy;omega
 have hcl:=List.count_le_length (a:=((x.toNat:Nat):Int)) (l:=A++B++n.2.2.2);simp only[List.length_append]at hcl;have hr:=nsAt_rep0 (lnV n).toNat x.toNat;rw[e,incL_at _ _ hin x.toNat (by omega) (by omega),hr,List.count_append,List.count_append,show((x.toNat:Nat):Int)=x by omega];omega
theorem elT_step (n:Net)(k:Nat):elT n (k+1)=if(sqAt n.2.1 k).1≠0 then elT n k else
 if 0<=nsAt (sqAt n.2.1 k).2.2 0 - fstP n/\nsAt (usesP n) (nsAt (sqAt n.2.1 k).2.2 0).toNat=1 then
  ((elT n k).1++[(nsAt (sqAt n.2.1 k).2.2 0 - fstP n,(k:Int))],gset (elT n k).2 (nsAt (sqAt n.2.1 k).2.2 0 - fstP n) true)
 else((elT n k).1++[(-1,(k:Int))],(elT n k).2):=rfl
theorem elT_all {n:Net}(hn:netP n=true):∀k,k<=n.2.1.length->(elT n k).1.length+rmP n k=k/\(∀x:Int,((elT n k).1.flatMap lf2).count x=kdC n 0 k x)/\(∀j:Nat,((elT n k).1.flatMap lf1).count (j:Int)=if bAu (elT n k).2 j=true then 1 else 0)/\∀j:Nat,bAu (elT n k).2 j=true->∃a,a<k/\(sqAt n.2.1 a).1=0/\nsAt (sqAt n.2.1 a).2.2 0=fstP n+(j:Int):=by
 obtain⟨hln,ho,hs,hl⟩:=netP_all hn;have hv:=lnV_le hln;have hlv:lnV n=fstP n+n.2.2.1.length:=rfl;have hin:∀k,k<n.2.1.length->(sqAt n.2.1 k).1=0->nsAt (sqAt n.2.1 k).2.2 0∈(sqAt n.2.1 k).2.2:=fun k hk c0=>by
  have hsk:=hs k hk;have hlen:(sqAt n.2.1 k).2.2.length=1:=by rcases hsk.1 with q | q<;>omega
  rw[<-ns_at (show 0<(sqAt n.2.1 k).2.2.length by omega)];exact List.getElem_mem _
 intro k
 induction k with
 | zero=>
  intro _;have hU:∀j,bAu (List.replicate n.2.2.1.length false) j=false:=fun j=>by
   unfold bAu;rw[List.getD,List.getElem?_replicate];split<;>rfl
  refine⟨rfl,fun x=> ?_,fun j=> ?_,fun j hj=> ?_⟩
  ·unfold kdC;rw[if_neg (by omega)];rfl
  ·rw[show(elT n 0).2=List.replicate n.2.2.1.length false from rfl,hU j,if_neg (by simp)];rfl
  ·rw[show(elT n 0).2=List.replicate n.2.2.1.length false from rfl,hU j]at hj;cases hj
 | succ k ih=>
  intro hk;obtain⟨ih1,ih2,ih3,ih4⟩:=ih (by omega);obtain⟨_,hU,_⟩:=elT_ok hn k (by omega);have hsk:=hs k (by omega);have hr:rmP n (k+1)=if(sqAt n.2.1 k).1=1 then rmP n k+1 else rmP n k:=rfl
  have mono:∀j:Nat,bAu (elT n k).2 j=true->∃a,a<k+1/\(sqAt n.2.1 a).1=0/\nsAt (sqAt n.2.1 a).2.2 0=fstP n+(j:Int):=fun j hj=>by
   obtain⟨a,h1,h2⟩:=ih4 j hj;exact⟨a,by omega,h2⟩
  rw[elT_step];by_cases c0:(sqAt n.2.1 k).1≠0
  ·have c1:(sqAt n.2.1 k).1=1:=by rcases hsk.1 with q | q<;>omega
   rw[if_pos c0,hr,if_pos c1];refine⟨by omega,fun x=> ?_,ih3,mono⟩;rw[ih2,kdC_succ,if_neg (fun h=>c0 h.2)];rfl
  rw[if_neg c0];have c0:(sqAt n.2.1 k).1=0:=Decidable.byContradiction c0;rw[if_neg (show ¬(sqAt n.2.1 k).1=1 by omega)]at hr;have hmem:=hin k (by omega) c0;have hx:=belowP_mem hsk.2 _ hmem;have f2:∀(y:Int) (x:Int),(((elT n k).1++[(y,(k:Int))]).flatMap lf2).count x=kdC n 0 (k+1) x:=fun y x=>by
   rw[List.flatMap_append,List.count_append,ih2,kdC_succ];have e:[(y,(k:Int))].flatMap lf2=[(k:Int)]:=by
    simp only[List.flatMap_cons,List.flatMap_nil,List.append_nil];unfold lf2;rw[if_pos (by simp only;omega)]
   rw[e,List.count_singleton];by_cases c:x=(k:Int)
   ·rw[if_pos (by simp[c]),if_pos ⟨c,c0⟩]
   ·rw[if_neg (show ¬((k:Int)==x)=true by simp;omega),if_neg (fun h=>c h.1)]
  by_cases c1:0<=nsAt (sqAt n.2.1 k).2.2 0 - fstP n/\nsAt (usesP n) (nsAt (sqAt n.2.1 k).2.2 0).toNat=1
  ·rw[if_pos c1,hr];have hi1:nsAt (sqAt n.2.1 k).2.2 0 - fstP n<((elT n k).2.length:Int):=by omega
   refine⟨by rw[List.length_append];simp only[List.length_cons,List.length_nil];omega,f2 _,fun j=> ?_,fun j hj=> ?_⟩
   ·rw[List.flatMap_append,List.count_append,ih3 j,bAu_put c1.1 hi1];have e:[(nsAt (sqAt n.2.1 k).2.2 0 - fstP n,(k:Int))].flatMap lf1=[nsAt (sqAt n.2.1 k).2.2 0 - fstP n]:=by
     simp only[List.flatMap_cons,List.flatMap_nil,List.append_nil];unfold lf1;rw[if_pos (by simp only;omega)]
    rw[e,List.count_singleton];by_cases c:nsAt (sqAt n.2.1 k).2.2 0 - fstP n=(j:Int)
    ·have hf:bAu (elT n k).2 j=false:=by
      cases hb:bAu (elT n k).2 j with
      | false=>rfl
      | true=>
       obtain⟨a,a1,a2,a3⟩:=ih4 j hb;have hma:=hin a (by omega) a2;have e2:nsAt (sqAt n.2.1 a).2.2 0=nsAt (sqAt n.2.1 k).2.2 0:=by omega
       rw[e2]at hma;exact absurd c1.2 (uses_two hn a1 (by omega) hma hmem)
     rw[hf,if_pos c,if_neg (by simp),if_pos (by simp[c]),if_pos rfl]
    ·rw[if_neg c,if_neg (show ¬(nsAt (sqAt n.2.1 k).2.2 0 - fstP n==(j:Int))=true by simp;omega)];rfl
   ·simp only at hj;rw[bAu_put c1.1 hi1]at hj;split at hj
    ·rename_i c;exact⟨k,by omega,c0,by omega⟩
    ·exact mono j hj
  ·rw[if_neg c1,hr];refine⟨by rw[List.length_append];simp only[List.length_cons,List.length_nil];omega,f2 _,fun j=> ?_,mono⟩;rw[List.flatMap_append,List.count_append,ih3 j];rfl
theorem elL_all {n:Net}(hn:netP n=true):∀k,k<=n.2.2.1.length->(elL n k).length<=(elT n n.2.1.length).1.length+k/\(∀x:Int,((elL n k).flatMap lf2).count x=((elT n n.2.1.length).1.flatMap lf2).count x)/\∀j:Nat,((elL n k).flatMap lf1).count (j:Int)=if bAu (elT n n.2.1.length).2 j=true\/j<k then 1 else 0:=by
 obtain⟨h1,h2,h3,h4⟩:=elT_all hn n.2.1.length (Nat.le_refl _);intro k
 induction k with
 | zero=>
  intro _;refine⟨Nat.le_refl _,fun _=>rfl,fun j=> ?_⟩;show((elT n n.2.1.length).1.flatMap lf1).count (j:Int)=_;rw[h3];by_cases c:bAu (elT n n.2.1.length).2 j=true
  ·rw[if_pos c,if_pos (.inl c)]
  ·rw[if_neg c,if_neg (fun h=>by rcases h with h | h;exact c h;omega)]
 | succ k ih=>
  intro hk;obtain⟨i1,i2,i3⟩:=ih (by omega);have e:elL n (k+1)=if bAu (elT n n.2.1.length).2 k=false then elL n k++[((k:Int),-1)]else elL n k:=rfl
  rw[e];by_cases c:bAu (elT n n.2.1.length).2 k=false
  ·rw[if_pos c];refine⟨by rw[List.length_append];simp only[List.length_cons,List.length_nil];omega,fun x=> ?_,fun j=> ?_⟩
   ·rw[List.flatMap_append,List.count_append,i2];rfl
   ·rw[List.flatMap_append,List.count_append,i3];have e:[((k:Int),(-1:Int))].flatMap lf1=[(k:Int)]:=by
     simp only[List.flatMap_cons,List.flatMap_nil,List.append_nil];unfold lf1;rw[if_pos (by simp only;omega)]
    rw[e,List.count_singleton];by_cases cj:j=k
    ·subst cj;rw[if_neg (by rw[c];simp),if_pos (by simp),if_pos (.inr (by omega))]
    ·rw[if_neg (show ¬((k:Int)==(j:Int))=true by simp;omega)];by_cases c2:bAu (elT n n.2.1.length).2 j=true\/j<k
     ·rw[if_pos c2,if_pos (by rcases c2 with h | h;exact .inl h;exact .inr (by omega))]
     ·rw[if_neg c2,if_neg (fun h=>c2 (by rcases h with h | h;exact .inl h;exact .inr (by omega)))]
  ·rw[if_neg c];have c:bAu (elT n n.2.1.length).2 k=true:=by cases h:bAu (elT n n.2.1.length).2 k with
    | true=>rfl
    | false=>exact absurd h c
   refine⟨by omega,i2,fun j=> ?_⟩;rw[i3];by_cases c2:bAu (elT n n.2.1.length).2 j=true\/j<k
   ·rw[if_pos c2,if_pos (by rcases c2 with h | h;exact .inl h;exact .inr (by omega))]
   ·rw[if_neg c2,if_neg (fun h=>c2 (by
     rcases h with h | h
     ·exact .inl h
     ·by_cases cj:j=k
      ·subst cj;exact .inl c
      ·exact .inr (by omega)))]
structure PkAll (n:Net)(out:List Blk):Prop where
 bk:∀b∈out,bkOk n b=true
 pk:out.length<=64->packP n out=true
 len:out.length=n.1.toNat+n.2.2.2.length+rmP n n.2.1.length+lgc out
 lg:lgc out+rmP n n.2.1.length<=n.2.2.1.length+n.2.1.length
theorem fm_none (ls:List Le):(ls.flatMap fun _=>([]:List Int))=[]:=by
 induction ls with
 | nil=>rfl
 | cons a r ih=>rw[List.flatMap_cons,ih];rfl
theorem pk_all {n:Net}(hn:netP n=true){out:List Blk}(hp:Packs n (sqA n n.2.1.length) (elP n) out):PkAll n out:=by
 obtain⟨hln,ho,hs,hl⟩:=netP_all hn;have hln1:=hln.1;obtain⟨s1,s2,s3,s4,s5⟩:=sqA_all n n.2.1.length;obtain⟨t1,t2,t3,t4⟩:=elT_all hn n.2.1.length (Nat.le_refl _);obtain⟨e1,e2,e3⟩:=elL_all hn n.2.2.1.length (Nat.le_refl _);obtain⟨p1,p2⟩:=packs_len hp;have hel:=(elL_ok hn n.2.2.1.length (Nat.le_refl _)).2;have hlg0:lgc (sqA n n.2.1.length)=0:=by
  unfold lgc;refine List.countP_eq_zero.2 fun b hb=> ?_
  rcases s1 b hb with⟨j,_,rfl⟩ | ⟨j,_,rfl⟩ | ⟨j,_,_,rfl⟩<;>simp
 have hbs:∀b∈sqA n n.2.1.length,bkOk n b=true:=fun b hb=>by
  rcases s1 b hb with⟨j,h1,rfl⟩ | ⟨j,h1,rfl⟩ | ⟨j,h1,h2,rfl⟩
  ·unfold bkOk itemP blk0;simp;omega
  ·unfold bkOk itemP blk0;simp;omega
  ·unfold bkOk itemP blk0;simp[h2];omega
 have hbk:=packs_bk hn hp hbs hel
 change (elP n).length<=_ at e1
 have ecount:∀x:Int,((elP n).flatMap lf2).count x=kdC n 0 n.2.1.length x:=fun x=>(e2 x).trans (t2 x)
 have rng:∀b∈out,∀e∈b.2.2,e.1<(n.2.2.1.length:Int)/\e.2<(n.2.1.length:Int):=fun b hb e he=>by
  obtain⟨j,hj,rfl⟩:=List.getElem_of_mem he;rw[le_eq hj];exact bk_les (hbk b hb) j hj
 refine⟨hbk,fun h64=> ?_,by omega,by omega⟩;unfold packP;rw[hn,dt h64,List.all_eq_true.2 hbk];simp only[Bool.true_and];rw[pkA_L];unfold once4 pk0;simp only;have o0:once (incL (List.replicate n.1.toNat 0) (out.flatMap i0))=true:=by
  refine once_of (fun x hx=> ?_) (fun j hj=> ?_)
  ·obtain⟨b,hb,hx⟩:=List.mem_flatMap.1 hx;unfold i0 at hx;split at hx
   ·rename_i k0;have:=(bk_item (hbk b hb)).1 k0;rw[List.mem_singleton.1 hx];omega
   ·cases hx
  ·rw[packs_cnt (g:=fun _=>[]) (fun ls=>by rw[fm_none];rfl) hp,fm_none,s2,(pdA_all _).2,if_pos (by omega)];rfl
 have o1:once (incL (List.replicate n.2.2.2.length 0) (out.flatMap i1))=true:=by
  refine once_of (fun x hx=> ?_) (fun j hj=> ?_)
  ·obtain⟨b,hb,hx⟩:=List.mem_flatMap.1 hx;unfold i1 at hx;split at hx
   ·rename_i k0;have:=(bk_item (hbk b hb)).2.1 k0;rw[List.mem_singleton.1 hx];omega
   ·cases hx
  ·rw[packs_cnt (g:=fun _=>[]) (fun ls=>by rw[fm_none];rfl) hp,fm_none,s3,(otA_all n _).2.2,if_pos (by omega)];rfl
 have o2:once (incL (List.replicate n.2.1.length 0) (out.flatMap i2))=true:=by
  refine once_of (fun x hx=> ?_) (fun j hj=> ?_)
  ·obtain⟨b,hb,hx⟩:=List.mem_flatMap.1 hx;unfold i2 at hx;rcases List.mem_append.1 hx with hx | hx
   ·split at hx
    ·rename_i k0;have:=(bk_item (hbk b hb)).2.2 k0;rw[List.mem_singleton.1 hx];omega
    ·cases hx
   ·obtain⟨e,he,hx⟩:=List.mem_flatMap.1 hx;have:=rng b hb e he;unfold lf2 at hx;split at hx
    ·rw[List.mem_singleton.1 hx];omega
    ·cases hx
  ·rw[packs_cnt (g:=lf2) (fun ls=>rfl) hp,s4,ecount];have hk:=(hs j hj).1;unfold kdC;rw[Int.toNat_natCast];rcases hk with q | q
   ·rw[if_neg (by omega),if_pos (by omega)]
   ·rw[if_pos (by omega),if_neg (by omega)]
 have o3:once (incL (List.replicate n.2.2.1.length 0) (out.flatMap i3))=true:=by
  refine once_of (fun x hx=> ?_) (fun j hj=> ?_)
  ·obtain⟨b,hb,hx⟩:=List.mem_flatMap.1 hx;unfold i3 at hx;obtain⟨e,he,hx⟩:=List.mem_flatMap.1 hx;have:=rng b hb e he;unfold lf1 at hx;split at hx
   ·rw[List.mem_singleton.1 hx];omega
   ·cases hx
  ·rw[packs_cnt (g:=lf1) (fun ls=>rfl) hp,cnt_none fun b hb=>by rcases s1 b hb with⟨j,_,rfl⟩ | ⟨j,_,rfl⟩ | ⟨j,_,_,rfl⟩<;>rfl];show 0+((elL n n.2.2.1.length).flatMap lf1).count (j:Int)=1;rw[e3,if_pos (.inr hj)]
 rw[o0,o1,o2,o3];rfl
end Go.Pf
