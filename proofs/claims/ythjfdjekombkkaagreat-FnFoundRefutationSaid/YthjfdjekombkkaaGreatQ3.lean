/-
  Own work: parts Sep, Spc, Crw, Cpa, Grw, Rta, Rlg, Rtb, Rtc, LawRouteAll, LawRoutesOk, LawOverused, Rdj, Rfu, LawFnFoundRefutation, plain lemmas.
-/
import Derived.Test.YthjfdjekombkkaaGreatQ2
import Derived.Test.YthjfdjekombkkaaGreatQ0
import Derived.Test.YthjfdjekombkkaaGreatD
import Derived.Test.YthjfdjekombkkaaGreatQ1
/-
  Own work. Separation: what is reached without a set of wires, plainly.
-/
namespace Go.Pf
open Go Go.Pu
set_option linter.unusedVariables false
def bAt (R:List Bool)(v:Nat):Bool:=R.getD v false
theorem L1 {R:List Bool}{v:Nat}(h:v<R.length):Ak false R (v:Int)=some (bAt R v):=by
 rw[Ar h];unfold bAt
 rw[List.getD,List.getElem?_eq_getElem h];rfl
theorem W6 {R:List Bool}{k:Nat}(x:Bool)(j:Nat)(h:k<R.length):bAt (R.set k x) j=if j=k then x else bAt R j:=by
 unfold bAt;rw[List.getD_eq_getElem?_getD,List.getD_eq_getElem?_getD];by_cases e:j=k
 ·rw[if_pos e,e,List.getElem?_set_self h];rfl
 ·rw[if_neg e,List.getElem?_set_ne (by omega)]
def nF:List Bool->Nat
 | []=>0
 | b::r=>(bif b then 0 else 1)+nF r
theorem Amv:∀(R:List Bool) (k:Nat),k<R.length->bAt R k=false->nF (R.set k true)+1=nF R
 | [],k,h,_=>by simp at h
 | b::r,0,_,e=>by
  have:b=false:=e;subst this;show nF (true::r)+1=nF (false::r);simp[nF];omega
 | b::r,k+1,h,e=>by
  have ih:=Amv r k (by simp only[Ab]at h;omega) e;show(bif b then 0 else 1)+nF (r.set k true)+1=(bif b then 0 else 1)+nF r;omega
theorem Axn:∀R:List Bool,nF R<=R.length
 | []=>by simp[nF]
 | b::r=>by
  have:=Axn r;show(bif b then 0 else 1)+nF r<=r.length+1;cases b<;>simp<;>omega
theorem Ade {N:Nat}{xs:List Int}{v:Nat}(h:v<N):bAt (E0 N xs) v=decide ((v:Int)∈xs):=by
 have h1:=Hr N xs v h;rw[L1 (by rw[Ep];exact h)]at h1;exact Option.some.inj h1
inductive Rch (N:Nat)(G:List (List Int))(cut:List Int)(src:Nat):Nat->Prop
 | base:Rch N G cut src src
 | step (u v:Nat):Rch N G cut src u->u<N->v<N->(u:Int)∈gAt G v->(v:Int)∉cut->Rch N G cut src v
theorem Amw {N:Nat}{G:List (List Int)}{cut:List Int}{src:Nat}(hG:Wz N G)(hs:src<N):∃R,Gj (G,((src:Int),E0 N cut))=some R/\R.length=N/\∀v,v<N->(bAt R v=true↔Rch N G cut src v):=by
 have hN:=hG.2.1;have hGl:=hG.1;unfold Gj
 try dsimp only
 rw[hGl,Bz (by omega) (by omega)];simp only[Aa];rw[As (by simpa using hs),Ar (by simpa using hs)];simp only[Aa];rw[B8];have hrep:∀v,v<N->bAt (List.replicate N false) v=false:=by
  intro v hv;unfold bAt;rw[List.getD,List.getElem?_replicate,if_pos hv];rfl
 have h0:∀v,v<N->bAt ((List.replicate N false).set src true) v=true->Rch N G cut src v:=by
  intro v hv e;rw[W6 _ _ (by simpa using hs)]at e;by_cases q:v=src
  ·rw[q];exact Rch.base
  ·rw[if_neg q,hrep v hv]at e;simp at e
 have h1:bAt ((List.replicate N false).set src true) src=true:=by rw[W6 _ _ (by simpa using hs),if_pos rfl]
 have fin:∀R:List Bool,(∀v,v<N->bAt R v=true->Rch N G cut src v)->bAt R src=true->(∀u v:Nat,u<N->v<N->(u:Int)∈gAt G v->bAt R u=true->(v:Int)∉cut->bAt R v=true)->∀v,v<N->(bAt R v=true↔Rch N G cut src v):=by
  intro R r1 r2 r3 v hv;refine⟨r1 v hv,fun h=> ?_⟩
  induction h with
  | base=>exact r2
  | step u v hu huN hvN hm hc ih=>exact r3 u v huN hvN hm (ih huN) hc
 refine B6 (fun s:Bool×List Bool=>s.2.length=N/\(∀v,v<N->bAt s.2 v=true->Rch N G cut src v)/\bAt s.2 src=true/\(s.1=false->∀u v:Nat,u<N->v<N->(u:Int)∈gAt G v->bAt s.2 u=true->(v:Int)∉cut->bAt s.2 v=true)) _ (fun s=>2*nF s.2+(if s.1=true then 1 else 0)) (fun s hI=> ?_) (true,(List.replicate N false).set src true) ⟨by simp,h0,h1,fun e=>by simp at e⟩
 clear h0 h1
 obtain⟨fl,D⟩:=s;obtain⟨hDl,hD,hsrc,hcl⟩:=hI;simp only at hDl hD hsrc hcl
 try dsimp only
 cases fl with
 | false=>
  right
  exact⟨D,rfl,hDl,fin D hD hsrc (hcl rfl)⟩
 | true=>
  left
  rw[cond_true]
  clear hcl
  refine Acp (A:=fun s' :Bool×List Bool=>(s'.2.length=N/\(∀v,v<N->bAt s'.2 v=true->Rch N G cut src v)/\bAt s'.2 src=true/\(s'.1=false->∀u v:Nat,u<N->v<N->(u:Int)∈gAt G v->bAt s'.2 u=true->(v:Int)∉cut->bAt s'.2 v=true))/\2*nF s'.2+(if s'.1=true then 1 else 0)<2*nF D+(if true=true then 1 else 0)) ?_
  refine B6 (fun s:Bool×(Int×List Bool)=>(0<=s.2.1/\s.2.1<=(N:Int))/\s.2.2.length=N/\(∀v,v<N->bAt s.2.2 v=true->Rch N G cut src v)/\bAt s.2.2 src=true/\(s.1=true->nF s.2.2<nF D)/\(s.1=false->s.2.2=D/\∀u v:Nat,u<N->(v:Int)<s.2.1->(u:Int)∈gAt G v->bAt D u=true->(v:Int)∉cut->bAt D v=true)) _ (fun s=>(N - s.2.1).toNat) (fun s hI=> ?_) (false,(0,D)) ⟨⟨by simp,by simp⟩,hDl,hD,hsrc,fun e=>by simp at e,fun _=>⟨rfl,fun u v hu hv=>by simp only at hv;omega⟩⟩;obtain⟨fl,i,E⟩:=s;obtain⟨⟨i0,i1⟩,hEl,hE,hEs,ht,hf⟩:=hI;simp only at i0 i1 hEl hE hEs ht hf
  try dsimp only
  by_cases hi:i<(N:Int)
  rotate_left
  ·right
   rw[df hi,cond_false];refine⟨_,rfl,_,rfl,⟨hEl,hE,hEs,fun e=> ?_⟩,?_⟩
   ·obtain⟨e1,e2⟩:=hf e;intro u v hu hv hm g0 g1;simp only at*;rw[e1]at g0 ⊢;exact e2 u v hu (by omega) hm g0 g1
   ·cases fl with
    | true=>have:=ht rfl;simp only;omega
    | false=>have:=(hf rfl).1;simp only;rw[this];simp
  left
  obtain⟨v,rfl⟩:∃v:Nat,i=(v:Int):=⟨i.toNat,by omega⟩;have hv:v<N:=by omega
  have hgv:=hG.2.2 v hv;rw[dt hi,cond_true];refine Acp (A:=fun s' :Bool×(Int×List Bool)=>((0<=s'.2.1/\s'.2.1<=(N:Int))/\s'.2.2.length=N/\(∀v,v<N->bAt s'.2.2 v=true->Rch N G cut src v)/\bAt s'.2.2 src=true/\(s'.1=true->nF s'.2.2<nF D)/\(s'.1=false->s'.2.2=D/\∀u v:Nat,u<N->(v:Int)<s'.2.1->(u:Int)∈gAt G v->bAt D u=true->(v:Int)∉cut->bAt D v=true))/\(N - s'.2.1).toNat<(N - (v:Int)).toNat) ?_
  refine Atb (fun a:Bool×List Bool=>a.2.length=N/\(∀v,v<N->bAt a.2 v=true->Rch N G cut src v)/\bAt a.2 src=true/\(a.1=true->nF a.2<nF D)/\(a.1=false->a.2=D/\∀u w:Nat,u<N->(w:Int)<(v:Int)+1->(u:Int)∈gAt G w->bAt D u=true->(w:Int)∉cut->bAt D w=true)) ?_ ?_
  rotate_left
  ·rintro⟨fl2,F⟩ ⟨a1,a2,a3,a4,a5⟩
   try dsimp only
   rw[Aj (by omega)];exact⟨_,rfl,_,rfl,⟨⟨by simp only;omega,by simp only;omega⟩,a1,a2,a3,a4,a5⟩,by simp only;omega⟩
  refine B6 (fun s:Bool×(Int×List Bool)=>(0<=s.2.1/\s.2.1<=((gAt G v).length:Int))/\s.2.2.length=N/\(∀v,v<N->bAt s.2.2 v=true->Rch N G cut src v)/\bAt s.2.2 src=true/\(s.1=true->nF s.2.2<nF D)/\(s.1=false->s.2.2=D/\(∀u w:Nat,u<N->(w:Int)<(v:Int)->(u:Int)∈gAt G w->bAt D u=true->(w:Int)∉cut->bAt D w=true)/\∀j:Nat,(j:Int)<s.2.1->bAt D (Am (gAt G v) j).toNat=true->(v:Int)∉cut->bAt D v=true)) _ (fun s=>((gAt G v).length - s.2.1).toNat) (fun s hI=> ?_) (fl,(0,E)) ⟨⟨by simp,by simp⟩,hEl,hE,hEs,ht,fun e=>⟨(hf e).1,(hf e).2,fun j hj=>by simp only at hj;omega⟩⟩
  clear ht hf hE hEs hEl
  clear E fl
  obtain⟨fl,j,E⟩:=s;obtain⟨⟨j0,j1⟩,hEl,hE,hEs,ht,hf⟩:=hI;simp only at j0 j1 hEl hE hEs ht hf
  try dsimp only
  rw[L0 (by omega)];simp only[Aa];have stop:(fl=false->∀u:Nat,u<N->(u:Int)∈gAt G v->bAt D u=true->(v:Int)∉cut->bAt D v=true)->(fl=false->E=D/\∀u w:Nat,u<N->(w:Int)<(v:Int)+1->(u:Int)∈gAt G w->bAt D u=true->(w:Int)∉cut->bAt D w=true):=by
   intro hq e;obtain⟨e1,e2,e3⟩:=hf e;refine⟨e1,fun u w hu hw hm g0 g1=> ?_⟩;by_cases q:w=v
   ·subst q;exact hq e u hu hm g0 g1
   ·exact e2 u w hu (by omega) hm g0 g1
  by_cases hj:j<((gAt G v).length:Int)
  rotate_left
  ·right
   rw[df hj,cond_false];refine⟨_,rfl,_,rfl,hEl,hE,hEs,ht,stop (fun e u hu hm g0 g1=> ?_)⟩;obtain⟨k,hk,ek⟩:=Ib hm;have:=(hf e).2.2 k (by omega);rw[ek,Int.toNat_natCast]at this;exact this g0 g1
  obtain⟨n,rfl⟩:∃n:Nat,j=(n:Int):=⟨j.toNat,by omega⟩;have hn:n<(gAt G v).length:=by omega
  have hmem:Am (gAt G v) n∈gAt G v:=by rw[<-Dm hn];exact List.getElem_mem hn
  have hun:=hgv.2 _ hmem;obtain⟨u,hu⟩:∃u:Nat,Am (gAt G v) n=(u:Int):=⟨(Am (gAt G v) n).toNat,by omega⟩;rw[hu]at hmem;have huN:u<N:=by omega
  rw[dt hj,cond_true,As (show v<E.length by omega),L1 (show v<E.length by omega)];simp only[Aa];cases hbv:bAt E v with
  | true=>
   right
   rw[Bool.not_true,cond_false];refine⟨_,rfl,_,rfl,hEl,hE,hEs,ht,stop (fun e u hu hm g0 g1=> ?_)⟩;rw[<-(hf e).1];exact hbv
  | false=>
   rw[Bool.not_false,cond_true,Hr _ _ _ hv];simp only[Aa];by_cases hc:(v:Int)∈cut
   ·right
    rw[dt hc,Bool.not_true,cond_false];exact⟨_,rfl,_,rfl,hEl,hE,hEs,ht,stop (fun e u hu hm g0 g1=>absurd hc g1)⟩
   ·left
    rw[df hc,Bool.not_false,cond_true,A0 hn];simp only[Aa];rw[hu,As (show u<E.length by omega),L1 (show u<E.length by omega),Aj (z:=(n:Int)+1) (by omega)];simp only[Aa];cases hbu:bAt E u with
    | true=>
     rw[cond_true,B8];have hset:=fun w=>W6 (R:=E) (k:=v) true w (by omega)
     have hnf:=Amv E v (by omega) hbv;refine⟨_,rfl,⟨⟨by simp only;omega,by simp only;omega⟩,by simp only[List.length_set];exact hEl,fun w hw hb=> ?_,?_,fun _=> ?_,fun e=>by simp at e⟩,by simp only;omega⟩
     ·simp only at hb;rw[hset]at hb;by_cases q:w=v
      ·subst q;exact Rch.step u w (hE u huN hbu) huN hw hmem hc
      ·rw[if_neg q]at hb;exact hE w hw hb
     ·simp only;rw[hset];split
      ·rfl
      ·exact hEs
     ·simp only;cases fl with
      | true=>have:=ht rfl;omega
      | false=>have:=(hf rfl).1;rw[this]at hnf ⊢;omega
    | false=>
     rw[cond_false];refine⟨_,rfl,⟨⟨by simp only;omega,by simp only;omega⟩,hEl,hE,hEs,ht,fun e=> ?_⟩,by simp only;omega⟩;obtain⟨e1,e2,e3⟩:=hf e;refine⟨e1,e2,fun j hj g0 g1=> ?_⟩;simp only at hj;by_cases q:j=n
     ·subst q;rw[hu,Int.toNat_natCast,<-e1,hbu]at g0;simp at g0
     ·exact e3 j (by omega) g0 g1
theorem S3 {d:Dev}{t k:Int}(h:0<=Ca d t k):DOk d/\Ca d t k<Aq d/\Bn d (Ca d t k)<7:=by
 unfold Ca at h;split at h
 rotate_left
 ·omega
 rename_i q;have ho:=Wv (tk d t);obtain⟨hd,t0,t1,_,q0,q1⟩:=Ace (d:=d) (t:=t) (ho.2.2 (by omega));have hp:=Dk hd;have hm:=By hd.1 hd.2.1;have h4:(t+1)*per d<=d.1*d.2.1*per d:=Int.mul_le_mul_of_nonneg_right (by omega) (by omega);rw[Int.add_mul,Int.one_mul]at h4;have e:Ca d t k=t*per d+(5+k):=by unfold Ca;rw[if_pos q];omega
 refine⟨hd,?_,?_⟩
 ·unfold Aq;omega
 ·unfold Bn;rw[e,Int.add_comm,Int.add_mul_emod_self_right,Int.emod_eq_of_lt (by omega) (by omega)];omega
theorem Amx {d:Dev}{t k:Int}(h:0<=M6 d t k):DOk d/\M6 d t k<Aq d/\Bn d (M6 d t k)<5:=by
 unfold M6 at h;split at h
 rotate_left
 ·omega
 rename_i q;have ho:=Amb (tk d t);obtain⟨hd,t0,t1,_,q0,q1⟩:=Ace (d:=d) (t:=t) (ho.2.2 (by omega));have hp:=Dk hd;have hm:=By hd.1 hd.2.1;have h4:(t+1)*per d<=d.1*d.2.1*per d:=Int.mul_le_mul_of_nonneg_right (by omega) (by omega);rw[Int.add_mul,Int.one_mul]at h4;have e:M6 d t k=t*per d+k:=by unfold M6;rw[if_pos q]
 refine⟨hd,?_,?_⟩
 ·unfold Aq;omega
 ·unfold Bn;rw[e,Int.add_comm,Int.add_mul_emod_self_right,Int.emod_eq_of_lt (by omega) (by omega)];omega
theorem Ake {d:Dev}{ps:List Int}{p:Pin}(h:0<=Fc d ps p):DOk d/\Fc d ps p<Aq d/\Bn d (Fc d ps p)<7:=by
 unfold Fc at*;split at h
 ·rename_i q;rw[if_pos q];exact S3 h
 ·omega
theorem Akf {d:Dev}{ps:List Int}{ss:List Pin}{x:Int}(h:x∈E2 d ps ss):DOk d/\0<=x/\x<Aq d/\Bn d x<5:=by
 unfold E2 at h;split at h
 rotate_left
 ·simp at h
 rename_i hall;obtain⟨p,hp,rfl⟩:=List.mem_map.1 h;have h0:=of_decide_eq_true (List.all_eq_true.1 hall p hp);have:0<=Qo d ps p->DOk d/\0<=Qo d ps p/\Qo d ps p<Aq d/\Bn d (Qo d ps p)<5:=by
  intro h0;unfold Qo at*;split at h0
  ·rename_i q;rw[if_pos q]
   have:=Amx h0;exact⟨this.1,h0,this.2⟩
  ·omega
 exact this h0
noncomputable def Adf (d:Dev)(src:Int)(cut:List Int):List Bool:=(Gj (dG d,(src,E0 (Aq d).toNat cut))).getD []
noncomputable def Yj (d:Dev)(ps:List Int)(c:B7)(cut:List Int):Bool:=
 if 0<=Fc d ps c.2.1 then(if((E2 d ps c.2.2).all fun s=>bAt (Adf d (Fc d ps c.2.1) cut) s.toNat)=true then false else true)else false
theorem Adg {d:Dev}{src:Nat}(hd:DOk d)(hs:(src:Int)<Aq d)(cut:List Int):Gj (dG d,((src:Int),E0 (Aq d).toNat cut))=some (Adf d src cut)/\(Adf d src cut).length=(Aq d).toNat/\∀v,v<(Aq d).toNat->(bAt (Adf d src cut) v=true↔Rch (Aq d).toNat (dG d) cut src v):=by
 obtain⟨R,h1,h2,h3⟩:=Amw (cut:=cut) (Afq hd) (show src<(Aq d).toNat by omega);have e:Adf d src cut=R:=by unfold Adf;rw[h1];rfl
 rw[e];exact⟨h1,h2,h3⟩
theorem Akg {d:Dev}(hd:DOk d)(cut:List Int)(hc:∀x∈cut,0<=x/\x<Aq d)(hl:cut.length<=1048576):Jg (Aq d,cut)=some (E0 (Aq d).toNat cut):=by
 have hn:=Bo hd;unfold Jg;obtain⟨N,hN⟩:∃N:Nat,Aq d=(N:Int):=⟨(Aq d).toNat,by omega⟩;rw[hN,Bz (by omega) (by omega),Int.toNat_natCast];simp only[Aa];have e0:((0:Int),List.replicate N false)=(fun k:Nat=>((k:Int),E0 N (cut.take k))) 0:=by
  dsimp only;rw[Tx,List.take_zero];rfl
 rw[e0];refine Ao cut.length (fun k=>((k:Int),E0 N (cut.take k))) (fun k hk=> ?_) ?_
 ·have:=hc _ (List.getElem_mem hk);rw[Dm hk]at this;obtain⟨m,hm⟩:∃m:Nat,Am cut k=(m:Int):=⟨(Am cut k).toNat,by omega⟩
  try dsimp only
  rw[dt (show(k:Int)<(cut.length:Int)by omega),cond_true,A0 hk,Ep];simp only[Aa];rw[hm,As (by omega),Hr _ _ _ (by omega),Tw _ _ _ (by omega),Aj (by omega),D3 hk,hm];rfl
 ·try dsimp only
  rw[df (by omega),cond_false,List.take_of_length_le (Nat.le_refl _)];rfl
theorem Amy {d:Dev}(hd:DOk d)(ps:List Int)(c:B7)(cut:List Int)(hp:PsR ps)(hl:c.2.2.length<=1048576):Kc (dG d,(d,(ps,(c,E0 (Aq d).toNat cut))))=some (Yj d ps c cut):=by
 have hn:=Bo hd;unfold Kc Yj
 try dsimp only
 rw[Ss d ps c hp,Pb d ps c hp hl];simp only[Aa];by_cases h0:Fc d ps c.2.1<0
 ·rw[dt h0,if_neg (by omega)];rfl
 rw[df h0,cond_false,if_pos (by omega)];have hsn:=Ake (d:=d) (ps:=ps) (p:=c.2.1) (by omega);obtain⟨s,hs⟩:∃s:Nat,Fc d ps c.2.1=(s:Int):=⟨(Fc d ps c.2.1).toNat,by omega⟩;rw[hs]at hsn ⊢;obtain⟨r1,r2,r3⟩:=Adg hd hsn.2.1 cut;rw[r1];simp only[Aa];have hsl:=Ach d ps c.2.2;have hsk:=fun x (hx:x∈E2 d ps c.2.2)=>Akf hx
 generalize E2 d ps c.2.2=ks at*;have e:=Bt ks (fun x=>bAt (Adf d (s:Int) cut) x.toNat) (fun k=>if hk:k<ks.length then bAt (Adf d (s:Int) cut) (ks[k]).toNat else true) (fun k hk=>by rw[dif_pos hk]);rw[<-e];refine Cl ks.length (fun k=>(k:Int)) _ true false (fun k hk hok=> ?_) (fun k hk hok=> ?_) ?_
 ·rw[dif_pos hk]at hok;have hx:=hsk _ (List.getElem_mem hk);obtain⟨m,hm⟩:∃m:Nat,ks[k]=(m:Int):=⟨(ks[k]).toNat,by omega⟩
  try dsimp only
  rw[dt (show(k:Int)<(ks.length:Int)by omega),cond_true,As hk,Ar hk];simp only[Aa];rw[hm,Int.toNat_natCast]at hok;rw[hm,As (by omega),L1 (by omega)];simp only[Aa];rw[hok,Bool.not_true,cond_false,Aj (by omega)];rfl
 ·rw[dif_pos hk]at hok;have hx:=hsk _ (List.getElem_mem hk);obtain⟨m,hm⟩:∃m:Nat,ks[k]=(m:Int):=⟨(ks[k]).toNat,by omega⟩
  try dsimp only
  rw[dt (show(k:Int)<(ks.length:Int)by omega),cond_true,As hk,Ar hk];simp only[Aa];rw[hm,Int.toNat_natCast]at hok;rw[hm,As (by omega),L1 (by omega)];simp only[Aa];rw[hok];rfl
 ·try dsimp only
  rw[df (by omega),cond_false];rfl
theorem Awi (xs:List Int):Adz true xs=some xs.isEmpty:=rfl
theorem Azt {α:Type}{X:Option α}{v:α}(h:∃o,X=some o/\o=v):X=some v:=by
 obtain⟨o,h1,h2⟩:=h;rw[h1,h2]
theorem At0 {d:Dev}(hd:DOk d){R:List (List Int)}(hR:Uh (Aq d).toNat (dG d) R)(ps:List Int)(c:B7)(cut:List Int)(hp:PsR ps)(hpl:ps.length<=1048576)(hl:c.2.2.length<=1048576)(hcut:∀x∈cut,C5 d x)(hcl:cut.length<=1048576):
 Hl (d,((dG d,R),(ps,(c,cut))))=some (Yj d ps c cut):=by
 have hn:=Bo hd;unfold Hl Yj
 try dsimp only
 rw[Wx d ps c hp hpl,T1 d ps c hp hpl hl];simp only[Aa];by_cases h0:Fc d ps c.2.1<0
 ·rw[dt h0,if_neg (by omega)];rfl
 rw[df h0,cond_false,if_pos (by omega)];have hsn:=Ake (d:=d) (ps:=ps) (p:=c.2.1) (by omega);obtain⟨s,hs⟩:∃s:Nat,Fc d ps c.2.1=(s:Int):=⟨(Fc d ps c.2.1).toNat,by omega⟩;rw[hs]at hsn ⊢;have hsc:(s:Int)∉cut:=fun q=>by have:=(hcut _ q).2;omega
 obtain⟨r1,r2,r3⟩:=Adg hd hsn.2.1 cut;have hsl:=Ach d ps c.2.2;have hsk:=fun x (hx:x∈E2 d ps c.2.2)=>Akf hx
 generalize E2 d ps c.2.2=ks at*;rw[Awi];simp only[Aa];cases hks:ks.isEmpty with
 | true=>
  have:ks=[]:=by simpa using hks
  subst this;rfl
 | false=>
 rw[cond_false,Dr hd];simp only[Aa];have hG:=Afq hd;obtain⟨N,hN⟩:∃N:Nat,Aq d=(N:Int):=⟨(Aq d).toNat,by omega⟩;have hNN:(Aq d).toNat=N:=by omega
 rw[hNN]at r2 r3 hR hG;rw[hN,Bz (by omega) (by omega)];simp only[Aa];have hsN:s<N:=by omega
 have hcr:∀x∈cut,0<=x/\x<(N:Int):=fun x hx=>by
  have:=hcut x hx;have h1:=this.1.2.1;have h2:=this.1.2.2.1;omega
 have e0:((0:Int),List.replicate N false)=(fun k:Nat=>((k:Int),E0 N (cut.take k))) 0:=by
  dsimp only;rw[Tx,List.take_zero];rfl
 rw[e0];refine Ao cut.length (fun k=>((k:Int),E0 N (cut.take k))) (fun k hk=> ?_) ?_
 ·have:=hcr _ (List.getElem_mem hk);rw[Dm hk]at this;obtain⟨m,hm⟩:∃m:Nat,Am cut k=(m:Int):=⟨(Am cut k).toNat,by omega⟩
  try dsimp only
  rw[dt (show(k:Int)<(cut.length:Int)by omega),cond_true,A0 hk,Ep];simp only[Aa];rw[hm,As (by omega),Hr _ _ _ (by omega),Tw _ _ _ (by omega),Aj (by omega),D3 hk,hm];rfl
 try dsimp only
 rw[df (show ¬(cut.length:Int)<(cut.length:Int)by omega),cond_false,List.take_of_length_le (Nat.le_refl _)];refine(Option.map_eq_some_iff).2 ⟨_,?_,rfl⟩;have hsal:=Ep N cut;rw[Br (by simp[hsal];omega) (by simp[hsal];omega)];simp only[Aa,List.nil_append];rw[As (by omega),L1 (by omega),B8];simp only[Aa];have hset0:=fun w=>W6 (R:=E0 N cut) (k:=s) true w (by omega)
 have hRl:=hR.1;have hGl:=hG.1;have hNl:=hG.2.1;have hnf:=Axn ((E0 N cut).set s true);rw[List.length_set,hsal]at hnf;refine Azt ?_
 refine B6 (fun st:List Bool×List Int=>st.1.length=N/\(∀v,v<N->bAt st.1 v=true->(v:Int)∈cut\/Rch N (dG d) cut s v)/\(∀v,v<N->(v:Int)∈cut->bAt st.1 v=true)/\bAt st.1 s=true/\st.2.length+nF st.1<=N+1/\(∀q∈st.2,(0<=q/\q<(N:Int))/\Rch N (dG d) cut s q.toNat)/\(∀u v:Nat,u<N->v<N->(u:Int)∈gAt (dG d) v->bAt st.1 u=true->(u:Int)∉cut->bAt st.1 v=true\/(u:Int)∈st.2)) _ (fun st=>2*nF st.1+st.2.length) (fun st hI=> ?_) ((E0 N cut).set s true,[(s:Int)]) ⟨by simp[hsal],fun v hv hb=> ?_,fun v hv hb=> ?_,by rw[hset0,if_pos rfl],by simp only[Ab,Ac];omega,fun q hq=> ?_,fun u v hu hv hm hb hc=> ?_⟩
 rotate_left
 ·simp only at hb;rw[hset0]at hb;by_cases q:v=s
  ·subst q;exact Or.inr Rch.base
  ·rw[if_neg q,Ade hv]at hb;exact Or.inl (of_decide_eq_true hb)
 ·simp only;rw[hset0];split
  ·rfl
  ·rw[Ade hv];exact decide_eq_true hb
 ·have:=List.mem_singleton.1 hq;subst this;rw[Int.toNat_natCast];exact⟨by omega,Rch.base⟩
 ·simp only at hb;rw[hset0]at hb;by_cases q:u=s
  ·subst q;right;simp
  ·rw[if_neg q,Ade hu]at hb;exact absurd (of_decide_eq_true hb) hc
 obtain⟨S,Q⟩:=st;obtain⟨hSl,hS1,hS2,hS3,hQl,hQ,hcl2⟩:=hI;simp only at hSl hS1 hS2 hS3 hQl hQ hcl2
 try dsimp only
 by_cases hq0:0<(Q.length:Int)
 rotate_left
 ·right
  rw[df hq0,cond_false];have hQn:Q=[]:=List.length_eq_zero_iff.1 (by omega);subst hQn;have hiff:∀v,v<N->(v:Int)∉cut->bAt S v=bAt (Adf d (s:Int) cut) v:=by
   intro v hv hvc;rw[Bool.eq_iff_iff,r3 v hv]
   constructor
   ·intro hb;rcases hS1 v hv hb with q | q
    ·exact absurd q hvc
    ·exact q
   ·intro hr
    clear hvc
    induction hr with
    | base=>exact hS3
    | step u v hu huN hvN hm hc ih=>
     by_cases huc:(u:Int)∈cut
     ·cases hu with
      | base=>exact absurd huc hsc
      | step w _ _ _ _ _ hc2=>exact absurd huc hc2
     ·rcases hcl2 u v huN hvN hm (ih huN) huc with q | q
      ·exact q
      ·simp at q
  refine Ata ?_
  refine⟨_,?_,rfl⟩;have e:=Bt ks (fun x=>bAt (Adf d (s:Int) cut) x.toNat) (fun k=>if hk:k<ks.length then bAt (Adf d (s:Int) cut) (ks[k]).toNat else true) (fun k hk=>by rw[dif_pos hk]);rw[<-e];refine Cl ks.length (fun k=>(k:Int)) _ true false (fun k hk hok=> ?_) (fun k hk hok=> ?_) ?_
  ·rw[dif_pos hk]at hok;have hx:=hsk _ (List.getElem_mem hk);obtain⟨m,hm⟩:∃m:Nat,ks[k]=(m:Int):=⟨(ks[k]).toNat,by omega⟩;have hmc:(m:Int)∉cut:=fun q=>by have:=(hcut _ q).2;rw[<-hm]at this;omega
   try dsimp only
   rw[dt (show(k:Int)<(ks.length:Int)by omega),cond_true,As hk,Ar hk];simp only[Aa];rw[hm,Int.toNat_natCast]at hok;rw[hm,As (by omega),L1 (by omega)];simp only[Aa];rw[hiff m (by omega) hmc,hok,Bool.not_true,cond_false,hsal,As (by omega),Hr _ _ _ (by omega)];simp only[Aa];rw[df hmc,cond_false,Aj (by omega)];rfl
  ·rw[dif_pos hk]at hok;have hx:=hsk _ (List.getElem_mem hk);obtain⟨m,hm⟩:∃m:Nat,ks[k]=(m:Int):=⟨(ks[k]).toNat,by omega⟩;have hmc:(m:Int)∉cut:=fun q=>by have:=(hcut _ q).2;rw[<-hm]at this;omega
   try dsimp only
   rw[dt (show(k:Int)<(ks.length:Int)by omega),cond_true,As hk,Ar hk];simp only[Aa];rw[hm,Int.toNat_natCast]at hok;rw[hm,As (by omega),L1 (by omega)];simp only[Aa];rw[hiff m (by omega) hmc,hok];rfl
  ·try dsimp only
   rw[df (by omega),cond_false];rfl
 left
 obtain⟨qh,Q',rfl⟩:∃a r,Q=a::r:=by
  cases Q with
  | nil=>simp at hq0
  | cons a r=>exact⟨a,r,rfl⟩
 have hqh:=hQ qh (by simp);obtain⟨n,rfl⟩:∃n:Nat,qh=(n:Int):=⟨qh.toNat,by omega⟩;rw[Int.toNat_natCast]at hqh;have hnN:n<N:=by omega
 have hRn:=hR.2 n hnN;have g0:Ak 0 ((n:Int)::Q') 0=some (n:Int):=Ar (show 0<((n:Int)::Q').length by simp);have i0:gin ((n:Int)::Q').length 0=some ():=As (show 0<((n:Int)::Q').length by simp);have esl:Bs ((n:Int)::Q') 1 (((n:Int)::Q').length:Int)=some Q' :=by
  have:=M5 (xs:=(n:Int)::Q') (k:=1) (by simp);simpa using this
 rw[dt hq0,cond_true,i0,g0,esl];simp only[Aa];rw[L0 (by omega)];simp only[Aa];simp only[Ab]at hQl;refine Acp (A:=fun st' :List Bool×List Int=>(st'.1.length=N/\(∀v,v<N->bAt st'.1 v=true->(v:Int)∈cut\/Rch N (dG d) cut s v)/\(∀v,v<N->(v:Int)∈cut->bAt st'.1 v=true)/\bAt st'.1 s=true/\st'.2.length+nF st'.1<=N+1/\(∀q∈st'.2,(0<=q/\q<(N:Int))/\Rch N (dG d) cut s q.toNat)/\(∀u v:Nat,u<N->v<N->(u:Int)∈gAt (dG d) v->bAt st'.1 u=true->(u:Int)∉cut->bAt st'.1 v=true\/(u:Int)∈st'.2))/\2*nF st'.1+st'.2.length<2*nF S+((n:Int)::Q').length) ?_
 refine B6 (fun st:Int×(List Bool×List Int)=>(0<=st.1/\st.1<=(gAt R n).length)/\st.2.1.length=N/\(∀v,v<N->bAt st.2.1 v=true->(v:Int)∈cut\/Rch N (dG d) cut s v)/\(∀v,v<N->(v:Int)∈cut->bAt st.2.1 v=true)/\bAt st.2.1 s=true/\st.2.2.length+nF st.2.1<=N+1/\(∀q∈st.2.2,(0<=q/\q<(N:Int))/\Rch N (dG d) cut s q.toNat)/\(∀u v:Nat,u<N->v<N->(u:Int)∈gAt (dG d) v->bAt st.2.1 u=true->(u:Int)∉cut->bAt st.2.1 v=true\/(u:Int)∈st.2.2\/(u=n/\(v:Int)∉(gAt R n).take st.1.toNat))/\2*nF st.2.1+st.2.2.length<2*nF S+Q'.length+1) _ (fun st=>((gAt R n).length - st.1).toNat) (fun st hI=> ?_) (0,(S,Q')) ⟨⟨by simp,by simp⟩,hSl,hS1,hS2,hS3,by simp only;omega,fun q hq=>hQ q (List.mem_cons_of_mem _ hq),fun u v hu hv hm hb hc=> ?_,by simp only;omega⟩
 rotate_left
 ·rcases hcl2 u v hu hv hm hb hc with q | q
  ·exact Or.inl q
  ·rcases List.mem_cons.1 q with q | q
   ·exact Or.inr (Or.inr ⟨by omega,by simp⟩)
   ·exact Or.inr (Or.inl q)
 clear hS1 hS2 hS3 hQl hcl2 hSl
 obtain⟨j,E,T⟩:=st;obtain⟨⟨j0,j1⟩,hSl,hS1,hS2,hS3,hQl,hQ2,hcl2,hmu⟩:=hI;simp only at j0 j1 hSl hS1 hS2 hS3 hQl hQ2 hcl2 hmu
 try dsimp only
 by_cases hj:j<((gAt R n).length:Int)
 rotate_left
 ·right
  rw[df hj,cond_false];refine⟨_,rfl,_,rfl,⟨hSl,hS1,hS2,hS3,hQl,hQ2,fun u v hu hv hm hb hc=> ?_⟩,by simp only[Ab];omega⟩;rcases hcl2 u v hu hv hm hb hc with q | q | ⟨q1,q2⟩
  ·exact Or.inl q
  ·exact Or.inr q
  ·refine absurd ?_ q2;rw[List.take_of_length_le (by omega)];subst q1;exact(hRn.2.2 v hv).2 hm
 left
 obtain⟨k,rfl⟩:∃k:Nat,j=(k:Int):=⟨j.toNat,by omega⟩;have hk:k<(gAt R n).length:=by omega
 have hmem:Am (gAt R n) k∈gAt R n:=by rw[<-Dm hk];exact List.getElem_mem hk
 have hvr:=hRn.2.1 _ hmem;obtain⟨v,hv⟩:∃v:Nat,Am (gAt R n) k=(v:Int):=⟨(Am (gAt R n) k).toNat,by omega⟩;rw[hv]at hmem;have hvN:v<N:=by omega
 have hedge:(n:Int)∈gAt (dG d) v:=(hRn.2.2 v hvN).1 hmem;have hsucc:((k:Int)+1).toNat=k+1:=by omega
 have hkk:((k:Int)).toNat=k:=by omega
 rw[hkk]at hcl2;rw[dt hj,cond_true,A0 hk];simp only[Aa];rw[hv,As (show v<E.length by omega),L1 (show v<E.length by omega),Aj (z:=(k:Int)+1) (by omega)];simp only[Aa];have adv:∀(u w:Nat),(w:Int)∉(gAt R n).take k->w≠v->(w:Int)∉(gAt R n).take (k+1):=by
  intro u w h1 h2 q;rw[D3 hk,hv]at q;rcases List.mem_append.1 q with q | q
  ·exact h1 q
  ·have:=List.mem_singleton.1 q;omega
 cases hbv:bAt E v with
 | true=>
  rw[Bool.not_true,cond_false];refine⟨_,rfl,⟨⟨by simp only;omega,by simp only;omega⟩,hSl,hS1,hS2,hS3,hQl,hQ2,fun u w hu hw hm hb hc=> ?_,hmu⟩,by simp only;omega⟩;rcases hcl2 u w hu hw hm hb hc with q | q | ⟨q1,q2⟩
  ·exact Or.inl q
  ·exact Or.inr (Or.inl q)
  ·by_cases qw:w=v
   ·left;rw[qw];exact hbv
   ·refine Or.inr (Or.inr ⟨q1,?_⟩);simp only;rw[hsucc];exact adv u w q2 qw
 | false=>
  have hset:=fun w=>W6 (R:=E) (k:=v) true w (by omega)
  have hnf2:=Amv E v (by omega) hbv;have hvc:(v:Int)∉cut:=fun q=>by rw[hS2 v hvN q]at hbv;simp at hbv
  have hnc:(n:Int)∉cut:=by
   intro q;cases hqh.2 with
   | base=>exact hsc q
   | step w _ _ _ _ _ hc2=>exact hc2 q
  have hrv:Rch N (dG d) cut s v:=Rch.step n v hqh.2 hnN hvN hedge hvc;rw[Bool.not_false,cond_true,B8,gapp_ok (by simp only[Ab,Ac];omega)];simp only[Aa];refine⟨_,rfl,⟨⟨by simp only;omega,by simp only;omega⟩,by simp only[List.length_set];exact hSl,fun w hw hb=> ?_,fun w hw hb=> ?_,?_,by simp only[Ad,Ab,Ac];omega,fun q hq=> ?_,fun u w hu hw hm hb hc=> ?_,by simp only[Ad,Ab,Ac];omega⟩,by simp only;omega⟩
  ·simp only at hb;rw[hset]at hb;by_cases q:w=v
   ·subst q;exact Or.inr hrv
   ·rw[if_neg q]at hb;exact hS1 w hw hb
  ·simp only;rw[hset];split
   ·rfl
   ·exact hS2 w hw hb
  ·simp only;rw[hset];split
   ·rfl
   ·exact hS3
  ·rcases List.mem_append.1 hq with q | q
   ·exact hQ2 _ q
   ·have:=List.mem_singleton.1 q;subst this;rw[Int.toNat_natCast];exact⟨by omega,hrv⟩
  ·simp only at hb ⊢;rw[hset]at hb;rw[hset];by_cases qw:w=v
   ·left;rw[if_pos qw]
   ·rw[if_neg qw];by_cases qu:u=v
    ·subst qu;exact Or.inr (Or.inl (List.mem_append_right _ (by simp)))
    ·rw[if_neg qu]at hb;rcases hcl2 u w hu hw hm hb hc with q | q | ⟨q1,q2⟩
     ·exact Or.inl q
     ·exact Or.inr (Or.inl (List.mem_append_left _ q))
     ·refine Or.inr (Or.inr ⟨q1,?_⟩);rw[hsucc];exact adv u w q2 qw
def Aq6 (d:Dev)(xs:List Int)(k:Nat):Prop:=C5 d (Am xs k)/\(0<k->Am xs (k - 1)<Am xs k)
instance (d:Dev)(xs:List Int)(k:Nat):Decidable (Aq6 d xs k):=by unfold Aq6;exact inferInstance
def wsP (d:Dev)(xs:List Int):Bool:=(List.range xs.length).all (fun k=>decide (Aq6 d xs k)) && decide (DOk d)
theorem T3 {d:Dev}{xs:List Int}(h:wsP d xs=true):DOk d/\∀x∈xs,C5 d x:=by
 unfold wsP at h;rw[Ai]at h;refine⟨of_decide_eq_true h.2,fun x hx=> ?_⟩;obtain⟨k,hk,rfl⟩:=Ib hx;exact(of_decide_eq_true (List.all_eq_true.1 h.1 k (List.mem_range.2 hk))).1
theorem Akh (d:Dev)(xs:List Int)(hl:xs.length<=1048576):K4 (d,xs)=some (wsP d xs):=by
 unfold K4 wsP;have e:((List.range xs.length).all (fun k=>decide (Aq6 d xs k)) && decide (DOk d))=if(List.range xs.length).all (fun k=>decide (Aq6 d xs k))=true then decide (DOk d)else false:=by
  cases (List.range xs.length).all (fun k=>decide (Aq6 d xs k))<;>rfl
 rw[e];refine Cl xs.length (fun k=>(k:Int)) _ false _ (fun k hk hok=> ?_) (fun k hk hok=> ?_) ?_
 ·have hok:=of_decide_eq_true hok
  try dsimp only
  rw[dt (show(k:Int)<(xs.length:Int)by omega),cond_true,A0 hk];simp only[Aa];rw[Sm,Aj (z:=(k:Int)+1) (by omega)];simp only[Aa];rw[dt hok.1,Bool.not_true,cond_false];by_cases k0:0<(k:Int)
  ·rw[dt k0,cond_true,Aj (z:=(k:Int) - 1) (by omega)];have e1:(k:Int) - 1=((k - 1:Nat):Int):=by omega
   rw[e1,A0 (show k - 1<xs.length by omega)];simp only[Aa];have:=hok.2 (by omega);rw[df (by omega),cond_false];rfl
  ·rw[df k0,cond_false];rfl
 ·have hok:=of_decide_eq_false hok
  try dsimp only
  rw[dt (show(k:Int)<(xs.length:Int)by omega),cond_true,A0 hk];simp only[Aa];rw[Sm];simp only[Aa];by_cases g:C5 d (Am xs k)
  rotate_left
  ·rw[df g];rfl
  rw[dt g,Bool.not_true,cond_false];by_cases k0:0<(k:Int)
  ·rw[dt k0,cond_true,Aj (z:=(k:Int) - 1) (by omega)];have e1:(k:Int) - 1=((k - 1:Nat):Int):=by omega
   rw[e1,A0 (show k - 1<xs.length by omega)];simp only[Aa];by_cases g2:Am xs k<=Am xs (k - 1)
   ·rw[dt g2];rfl
   ·exact absurd ⟨g,fun _=>by omega⟩ hok
  ·exact absurd ⟨g,fun q=>by omega⟩ hok
 ·try dsimp only
  rw[df (by omega),cond_false,F7];rfl
theorem At1 (xs:List Int)(hl:xs.length<=1048576):Dz xs=some ((List.range (xs.length - 1)).all fun k=>decide (Am xs k<Am xs (k+1))):=by
 unfold Dz;have e:((List.range (xs.length - 1)).all fun k=>decide (Am xs k<Am xs (k+1)))=if((List.range (xs.length - 1)).all fun k=>decide (Am xs k<Am xs (k+1)))=true then true else false:=by
  cases (List.range (xs.length - 1)).all fun k=>decide (Am xs k<Am xs (k+1))<;>rfl
 rw[e];refine Cl (xs.length - 1) (fun k=>(k:Int)+1) _ false true (fun k hk hok=> ?_) (fun k hk hok=> ?_) ?_
 ·have hok:=of_decide_eq_true hok;have e1:(k:Int)+1=((k+1:Nat):Int):=rfl
  try dsimp only
  rw[dt (show(k:Int)+1<(xs.length:Int)by omega),cond_true,Aj (z:=(k:Int)+1 - 1) (by omega),Aj (z:=(k:Int)+1+1) (by omega),Int.add_sub_cancel,A0 (show k<xs.length by omega)];simp only[Aa];rw[e1,A0 (show k+1<xs.length by omega)];simp only[Aa];rw[df (by omega),cond_false]
 ·have hok:=of_decide_eq_false hok;have e1:(k:Int)+1=((k+1:Nat):Int):=rfl
  try dsimp only
  rw[dt (show(k:Int)+1<(xs.length:Int)by omega),cond_true,Aj (z:=(k:Int)+1 - 1) (by omega),Int.add_sub_cancel,A0 (show k<xs.length by omega)];simp only[Aa];rw[e1,A0 (show k+1<xs.length by omega)];simp only[Aa];rw[dt (by omega)];rfl
 ·try dsimp only
  rw[df (by omega),cond_false];rfl
theorem Aq7 (d:Dev)(hd:DOk d)(xs:List Int)(hl:xs.length<=1048576):Ji (d,xs)=some (wsP d xs):=by
 unfold Ji;rw[At1 xs hl];simp only[Aa];have conv:wsP d xs=(((List.range (xs.length - 1)).all fun k=>decide (Am xs k<Am xs (k+1))) && (List.range xs.length).all (fun k=>decide (C5 d (Am xs k)))):=by
  unfold wsP;rw[dt hd,Bool.and_true,Bool.eq_iff_iff,Ai,List.all_eq_true,List.all_eq_true,List.all_eq_true]
  constructor
  ·intro h;refine⟨fun k hk=> ?_,fun k hk=>decide_eq_true (of_decide_eq_true (h k hk)).1⟩;have hk:=List.mem_range.1 hk;have:=(of_decide_eq_true (h (k+1) (List.mem_range.2 (by omega)))).2 (by omega);exact decide_eq_true this
  ·rintro⟨h1,h2⟩ k hk
   refine decide_eq_true ⟨of_decide_eq_true (h2 k hk),fun k0=> ?_⟩;have hk:=List.mem_range.1 hk;have:=of_decide_eq_true (h1 (k - 1) (List.mem_range.2 (by omega)));rw[show k - 1+1=k by omega]at this;exact this
 rw[conv];cases ((List.range (xs.length - 1)).all fun k=>decide (Am xs k<Am xs (k+1)))with
 | false=>rfl
 | true=>
  rw[Bool.not_true,cond_false,Bool.true_and];have e:(List.range xs.length).all (fun k=>decide (C5 d (Am xs k)))=if(List.range xs.length).all (fun k=>decide (C5 d (Am xs k)))=true then true else false:=by
   cases (List.range xs.length).all (fun k=>decide (C5 d (Am xs k)))<;>rfl
  rw[e];refine Cl xs.length (fun k=>(k:Int)) _ false true (fun k hk hok=> ?_) (fun k hk hok=> ?_) ?_
  ·try dsimp only
   rw[dt (show(k:Int)<(xs.length:Int)by omega),cond_true,A0 hk];simp only[Aa];rw[Nx];simp only[Aa];rw[hok,Bool.not_true,cond_false,Aj (by omega)];rfl
  ·try dsimp only
   rw[dt (show(k:Int)<(xs.length:Int)by omega),cond_true,A0 hk];simp only[Aa];rw[Nx];simp only[Aa];rw[hok];rfl
  ·try dsimp only
   rw[df (by omega),cond_false];rfl
end Go.Pf
/-
  Own work. How many connections a cut separates; cuts that refute; the first that does.
-/
namespace Go.Pf
open Go Go.Pu
set_option linter.unusedVariables false
noncomputable def T5 (d:Dev)(ps:List Int)(cns:List B7)(cut:List Int):Nat->Int
 | 0=>0
 | k+1=>T5 d ps cns cut k+(if Yj d ps (cns.getD k (0,((0,0),[]))) cut=true then 1 else 0)
theorem Aoz (d:Dev)(ps:List Int)(cns:List B7)(cut:List Int)(k:Nat):0<=T5 d ps cns cut k/\T5 d ps cns cut k<=k:=by
 induction k with
 | zero=>simp[T5]
 | succ k ih=>unfold T5;split<;>omega
theorem At2 {cns:List B7}{k:Nat}(h:k<cns.length):Ak ((0,((0,0),[])):B7) cns (k:Int)=some (cns.getD k (0,((0,0),[])))/\cns.getD k (0,((0,0),[]))∈cns:=by
 rw[Ar h,List.getD,List.getElem?_eq_getElem h];exact⟨rfl,List.getElem_mem h⟩
theorem Aee (d:Dev)(ps:List Int)(cns:List B7)(cut:List Int)(hp:PsR ps)(hc:Uf cns)(hcl:cut.length<=1048576):Fg (d,(ps,(cns,cut)))=some (if wsP d cut=true then T5 d ps cns cut cns.length else 0):=by
 unfold Fg;rw[Akh d cut hcl];simp only[Aa];cases hw:wsP d cut with
 | false=>rfl
 | true=>
  obtain⟨hd,hcut⟩:=T3 hw;have hn:=Bo hd;rw[Bool.not_true,cond_false,Add hd,if_pos rfl];simp only[Aa];refine Ao cns.length (fun k=>(T5 d ps cns cut k,(k:Int))) (fun k hk=> ?_) ?_
  ·obtain⟨g1,g2⟩:=At2 hk;have h1:=Aoz d ps cns cut k;have hl:=hc.1;have hlen:((dG d).length:Int)=Aq d:=by rw[Amu];omega
   try dsimp only
   rw[dt (show(k:Int)<(cns.length:Int)by omega),cond_true,g1,hlen];simp only[Aa];rw[Akg hd cut (fun x hx=>⟨(hcut x hx).1.2.1,(hcut x hx).1.2.2.1⟩) hcl];simp only[Aa];rw[Amy hd ps _ cut hp (hc.2 _ g2),Aj (z:=(k:Int)+1) (by omega)];simp only[Aa];have e:T5 d ps cns cut (k+1)=T5 d ps cns cut k+(if Yj d ps (cns.getD k (0,((0,0),[]))) cut=true then 1 else 0):=rfl;rw[e];cases Yj d ps (cns.getD k (0,((0,0),[]))) cut with
   | true=>
    have eb:K0 true=some 1:=rfl;rw[eb];simp only[Aa];rw[Aj (by omega)];rfl
   | false=>
    have eb:K0 false=some 0:=rfl;rw[eb];simp only[Aa];rw[Aj (by omega)];rfl
  ·try dsimp only
   rw[df (by omega),cond_false];rfl
theorem S4 {d:Dev}(hd:DOk d){R:List (List Int)}(hR:Uh (Aq d).toNat (dG d) R)(ps:List Int)(cns:List B7)(cut:List Int)(hp:PsR ps)(hpl:ps.length<=1048576)(hc:Uf cns)(hcut:∀x∈cut,C5 d x)(hcl:cut.length<=1048576):Ds (d,((dG d,R),(ps,(cns,cut))))=some (T5 d ps cns cut cns.length):=by
 unfold Ds
 try dsimp only
 refine Ao cns.length (fun k=>(T5 d ps cns cut k,(k:Int))) (fun k hk=> ?_) ?_
 ·obtain⟨g1,g2⟩:=At2 hk;have h1:=Aoz d ps cns cut k;have hl:=hc.1
  try dsimp only
  rw[dt (show(k:Int)<(cns.length:Int)by omega),cond_true,g1];simp only[Aa];rw[At0 hd hR ps _ cut hp hpl (hc.2 _ g2) hcut hcl,Aj (z:=(k:Int)+1) (by omega)];simp only[Aa];have e:T5 d ps cns cut (k+1)=T5 d ps cns cut k+(if Yj d ps (cns.getD k (0,((0,0),[]))) cut=true then 1 else 0):=rfl;rw[e];cases Yj d ps (cns.getD k (0,((0,0),[]))) cut with
  | true=>rw[cond_true,Aj (by omega)];rfl
  | false=>rw[cond_false];simp only[Bool.false_eq_true,if_false,Int.add_zero];rfl
 ·try dsimp only
  rw[df (by omega),cond_false];rfl
noncomputable def W7 (d:Dev)(ps:List Int)(cns:List B7)(cut:List Int):Bool:=if wsP d cut=true then decide ((cut.length:Int)<T5 d ps cns cut cns.length)else false
theorem W8 (d:Dev)(ps:List Int)(cns:List B7)(cut:List Int)(hp:PsR ps)(hc:Uf cns)(hcl:cut.length<=1048576):Ge (d,(ps,(cns,cut)))=some (W7 d ps cns cut):=by
 unfold Ge W7;rw[Akh d cut hcl,Aee d ps cns cut hp hc hcl];simp only[Aa];cases hw:wsP d cut<;>rfl
theorem At3 (d:Dev)(ps:List Int)(cns:List B7)(cut:List Int)(hp:PsR ps)(hpl:ps.length<=1048576)(hc:Uf cns)(hcl:cut.length<=1048576):Ih (d,(ps,(cns,cut)))=some (W7 d ps cns cut):=by
 unfold Ih W7;rw[Io];simp only[Aa];by_cases hd:DOk d
 rotate_left
 ·have:wsP d cut=false:=by unfold wsP;rw[df hd,Bool.and_false]
  rw[df hd,cond_false,this];rfl
 rw[dt hd,cond_true,Aq7 d hd cut hcl];simp only[Aa];cases hw:wsP d cut with
 | false=>rfl
 | true=>
  obtain⟨_,hcut⟩:=T3 hw;obtain⟨R,h1,h2⟩:=Vd hd;rw[cond_true,h1];simp only[Aa];rw[S4 hd h2 ps cns cut hp hpl hc hcut hcl];rfl
theorem Ahg {d:Dev}(hd:DOk d){xs:List Int}(h:Asc xs)(hw:∀x∈xs,C5 d x):wsP d xs=true:=by
 unfold wsP;rw[dt hd,Bool.and_true,List.all_eq_true];intro k hk;have hk:=List.mem_range.1 hk;refine decide_eq_true ⟨?_,fun k0=> ?_⟩
 ·rw[<-Dm hk];exact hw _ (List.getElem_mem hk)
 ·have hk1:k - 1<xs.length:=by omega
  rw[<-Dm hk,<-Dm hk1];exact List.pairwise_iff_getElem.1 h (k - 1) k hk1 hk (by omega)
theorem Afr (d:Dev)(row:Bool)(c:Int)(n:Nat):Asc (J0 d row c n)/\(∀x∈J0 d row c n,x<(n:Int)/\C5 d x):=by
 induction n with
 | zero=>exact⟨Js,by simp[J0]⟩
 | succ n ih=>
  rw[U5];cases h:Ip d row c n with
  | false=>exact⟨ih.1,fun x hx=>⟨by have:=(ih.2 x hx).1;omega,(ih.2 x hx).2⟩⟩
  | true=>
   refine⟨?_,fun x hx=> ?_⟩
   ·unfold Asc;rw[cond_true,List.pairwise_append];exact⟨ih.1,by simp,fun x hx y hy=>by
     have:=(ih.2 x hx).1;have:=List.mem_singleton.1 hy;omega⟩
   ·rcases List.mem_append.1 hx with q | q
    ·exact⟨by have:=(ih.2 x q).1;omega,(ih.2 x q).2⟩
    ·have:=List.mem_singleton.1 q;subst this;refine⟨by omega,?_⟩;unfold Ip at h;rw[Ai]at h;exact of_decide_eq_true h.1
theorem Ao0 {d:Dev}(hd:DOk d)(row:Bool)(c:Int):wsP d (Acb d row c)=true:=Ahg hd (Afr d row c _).1 (fun x hx=>((Afr d row c _).2 x hx).2)
theorem Awj {d:Dev}(hd:DOk d)(c:Int):wsP d (Ad6 d c)=true:=by
 unfold Ad6;split
 ·exact Ao0 hd _ _
 ·exact Ahg hd Js (by simp)
theorem Awk {d:Dev}(hd:DOk d)(c:Int):wsP d (Ad7 d c)=true:=by
 unfold Ad7;split
 ·exact Ao0 hd _ _
 ·exact Ahg hd Js (by simp)
def Li (d:Dev)(j:Nat):List Int:=if(j:Int)<d.1 - 1 then Ad6 d j else Ad7 d ((j:Int) - d.1+1)
theorem W9 (d:Dev)(j:Nat):(Li d j).length<=828:=by
 unfold Li;split
 ·exact Sp d _
 ·exact Acd d _
theorem Ao1 {d:Dev}(hd:DOk d)(j:Nat):wsP d (Li d j)=true:=by
 unfold Li;split
 ·exact Awj hd _
 ·exact Awk hd _
noncomputable def frP (d:Dev)(ps:List Int)(cns:List B7):List Int×Bool:=
 if DOk d/\Oj (ps.length:Int) cns=true then(match (List.range (d.1+d.2.1 - 2).toNat).find? (fun j=>W7 d ps cns (Li d j))with | some j=>(Li d j,true) | none=>([],false))else([],false)
theorem Awl (d:Dev)(ps:List Int)(cns:List B7)(hp:PsR ps)(hc:Uf cns):Fi (d,(ps,cns))=some (frP d ps cns):=by
 unfold Fi frP;rw[F7];simp only[Aa];by_cases hd:DOk d
 rotate_left
 ·rw[df hd,if_neg (fun e=>hd e.1)];rfl
 have hw:=hd.1;have hh:=hd.2.1;rw[dt hd,Bool.not_true,cond_false,Akc];simp only[Aa];cases hcn:Oj (ps.length:Int) cns with
 | false=>rw[if_neg (by simp)];rfl
 | true=>
  rw[if_pos ⟨hd,rfl⟩,Bool.not_true,cond_false];have hlen:=fun j=>W9 d j
  refine Ae6 (d.1+d.2.1 - 2).toNat (fun j=>(j:Int)) (fun j=>W7 d ps cns (Li d j)) (fun j=>(Li d j,true)) ([],false) (fun j hj hok=> ?_) (fun j hj hok=> ?_) ?_
  ·try dsimp only
   rw[Aj (z:=d.1+d.2.1) (by omega),Aj (z:=d.1+d.2.1 - 2) (by omega),dt (show(j:Int)<d.1+d.2.1 - 2 by omega),cond_true,Aj (z:=d.1 - 1) (by omega),Aj (z:=(j:Int)+1) (by omega)];unfold Li at hok;by_cases g:(j:Int)<d.1 - 1
   ·rw[if_pos g]at hok;rw[dt g,cond_true,Wu];simp only[Aa];rw[W8 d ps cns _ hp hc (Nat.le_trans (Sp d _) (by decide)),hok];rfl
   ·rw[if_neg g]at hok;rw[df g,cond_false,Aj (z:=(j:Int) - d.1) (by omega),Aj (z:=(j:Int) - d.1+1) (by omega),Sq];simp only[Aa];rw[W8 d ps cns _ hp hc (Nat.le_trans (Acd d _) (by decide)),hok];rfl
  ·try dsimp only
   rw[Aj (z:=d.1+d.2.1) (by omega),Aj (z:=d.1+d.2.1 - 2) (by omega),dt (show(j:Int)<d.1+d.2.1 - 2 by omega),cond_true,Aj (z:=d.1 - 1) (by omega),Aj (z:=(j:Int)+1) (by omega)];unfold Li at hok ⊢;by_cases g:(j:Int)<d.1 - 1
   ·rw[if_pos g]at hok ⊢;rw[dt g,cond_true,Wu];simp only[Aa];rw[W8 d ps cns _ hp hc (Nat.le_trans (Sp d _) (by decide)),hok];rfl
   ·rw[if_neg g]at hok ⊢;rw[df g,cond_false,Aj (z:=(j:Int) - d.1) (by omega),Aj (z:=(j:Int) - d.1+1) (by omega),Sq];simp only[Aa];rw[W8 d ps cns _ hp hc (Nat.le_trans (Acd d _) (by decide)),hok];rfl
  ·try dsimp only
   rw[Aj (z:=d.1+d.2.1) (by omega),Aj (z:=d.1+d.2.1 - 2) (by omega),df (by omega),cond_false];rfl
theorem Awm (d:Dev)(ps:List Int)(cns:List B7)(hp:PsR ps)(hpl:ps.length<=1048576)(hc:Uf cns):Fh (d,(ps,cns))=some (frP d ps cns):=by
 unfold Fh frP;rw[Io];simp only[Aa];by_cases hd:DOk d
 rotate_left
 ·rw[df hd,if_neg (fun e=>hd e.1)];rfl
 have hw:=hd.1;have hh:=hd.2.1;rw[dt hd,Bool.not_true,cond_false,Akd];simp only[Aa];cases hcn:Oj (ps.length:Int) cns with
 | false=>rw[if_neg (by simp)];rfl
 | true=>
  rw[if_pos ⟨hd,rfl⟩,Bool.not_true,cond_false];refine Ao (d.1 - 1).toNat (fun k=>((List.range k).map (Li d),(k:Int))) (fun k hk=> ?_) ?_
  ·try dsimp only
   rw[Aj (z:=d.1 - 2) (by omega),dt (show(k:Int)<=d.1 - 2 by omega),cond_true,As2];simp only[Aa];rw[Br (by simp;omega) (by simp;omega),Aj (by omega)];simp only[Aa];have e:Ad6 d (k:Int)=Li d k:=by unfold Li;rw[if_pos (by omega)]
   rw[e,<-Jw];rfl
  try dsimp only
  rw[Aj (z:=d.1 - 2) (by omega),df (by omega),cond_false];refine(Option.map_eq_some_iff).2 ⟨_,?_,rfl⟩;have e0:((0:Int),(List.range (d.1 - 1).toNat).map (Li d))=(fun k:Nat=>((k:Int),(List.range ((d.1 - 1).toNat+k)).map (Li d))) 0:=rfl;rw[e0];refine Ao (d.2.1 - 1).toNat (fun k=>((k:Int),(List.range ((d.1 - 1).toNat+k)).map (Li d))) (fun k hk=> ?_) ?_
  ·try dsimp only
   rw[Aj (z:=d.2.1 - 2) (by omega),dt (show(k:Int)<=d.2.1 - 2 by omega),cond_true,Ajq];simp only[Aa];rw[Br (by simp;omega) (by simp;omega),Aj (by omega)];simp only[Aa];have e:Ad7 d (k:Int)=Li d ((d.1 - 1).toNat+k):=by
    unfold Li;rw[if_neg (by omega)]
    congr 1;omega
   rw[e,<-Jw];rfl
  try dsimp only
  rw[Aj (z:=d.2.1 - 2) (by omega),df (by omega),cond_false];refine(Option.map_eq_some_iff).2 ⟨_,?_,rfl⟩;obtain⟨R,h1,h2⟩:=Vd hd;rw[h1];simp only[Aa];have eM:(d.1 - 1).toNat+(d.2.1 - 1).toNat=(d.1+d.2.1 - 2).toNat:=by omega
  rw[eM];have hml:((List.range (d.1+d.2.1 - 2).toNat).map (Li d)).length=(d.1+d.2.1 - 2).toNat:=by simp
  have hat:∀j,j<(d.1+d.2.1 - 2).toNat->Ak ([]:List Int) ((List.range (d.1+d.2.1 - 2).toNat).map (Li d)) (j:Int)=some (Li d j):=by
   intro j hj;rw[Ar (by rw[hml];exact hj)];simp
  refine Ae6 (d.1+d.2.1 - 2).toNat (fun j=>(j:Int)) (fun j=>W7 d ps cns (Li d j)) (fun j=>(Li d j,true)) ([],false) (fun j hj hok=> ?_) (fun j hj hok=> ?_) ?_
  ·try dsimp only
   have hl:=W9 d j;have hwj:=Ao1 hd j;unfold W7 at hok;rw[if_pos hwj]at hok;rw[hml,dt (show(j:Int)<((d.1+d.2.1 - 2).toNat:Int)by omega),cond_true,As hj,hat j hj];simp only[Aa];rw[S4 hd h2 ps cns _ hp hpl hc (T3 hwj).2 (by omega)];simp only[Aa];rw[hok,cond_false,Aj (by omega)];rfl
  ·try dsimp only
   have hl:=W9 d j;have hwj:=Ao1 hd j;unfold W7 at hok;rw[if_pos hwj]at hok;rw[hml,dt (show(j:Int)<((d.1+d.2.1 - 2).toNat:Int)by omega),cond_true,As hj,hat j hj];simp only[Aa];rw[S4 hd h2 ps cns _ hp hpl hc (T3 hwj).2 (by omega)];simp only[Aa];rw[hok,cond_true];rfl
  ·try dsimp only
   rw[hml,df (by omega),cond_false];rfl
theorem Awn (d:Dev)(ps:List Int)(cns:List B7):(frP d ps cns).1.length<=828:=by
 unfold frP;split
 ·split
  ·exact W9 d _
  ·simp
 ·simp
end Go.Pf
/-
  Own work. Draws, plainly: placements with a fault, crowds, cuts.
-/
namespace Go.Pf
open Go Go.Pu
set_option linter.unusedVariables false
theorem At4 {b:List Int}{c:Cur}(hb:M2 b)(hc:B5 b c){n:Int}(hn:0<=n/\n<=1000000):∃x c',Dj ((b,c),n)=some (x,c')/\B5 b c'∧x<=9223372036854775807:=by
 unfold Dj;dsimp only;obtain⟨x,c1,e1,k1⟩:=An6 hb hc 15;rw[e1];simp only[Aa];cases x with
 | true=>
  obtain⟨y,c2,e2,k2,hm⟩:=pick_ok hb k1 (l:=[(-1),n,wrap .i64 (n+1),9223372036854775807,(-9223372036854775808)]) (by simp);rw[cond_true,e2];refine⟨y,c2,rfl,k2,?_⟩;rw[Aj (by omega)]at hm;simp only[List.mem_cons,List.not_mem_nil,or_false]at hm;omega
 | false=>
  obtain⟨y,c2,e2,k2,k3,k4⟩:=Wn hb k1 n;rw[cond_false,e2];refine⟨y,c2,rfl,k2,?_⟩;by_cases h:n<=0
  ·rw[k3 h];omega
  ·have:=k4 (by omega);omega
theorem Tot.place {β:Type}{b:List Int}{c:Cur}{n:Int}{k:Int×Cur->Option β}{Q:β->Prop}(hb:M2 b)(hc:B5 b c)(hn:0<=n/\n<=1000000)(hk:∀x c',B5 b c'→x<=9223372036854775807->Tot (k (x,c')) Q):Tot ((Dj ((b,c),n)).bind k) Q:=by
 obtain⟨x,c',e,k1,k2⟩:=At4 hb hc hn;rw[e];exact hk x c' k1 k2
theorem Aq8 {b:List Int}{c:Cur}(hb:M2 b)(hc:B5 b c):Tot (Nq (b,c)) (fun r=>B5 b r.2):=by
 unfold Nq;dsimp only;refine Tot.bind (Ada hb hc) fun v1 h1=> ?_
 refine Tot.below hb h1.2 fun x2 c2 k2 _ _=> ?_
 dsimp only;refine Tot.dite (fun _=> ?_) (fun _=> ?_)
 ·exact Tot.pick hb k2 (by simp) fun x c' hc' _=>Tot.ret hc'
 refine Tot.dite (fun _=> ?_) (fun _=> ?_)
 ·exact Tot.pick hb k2 (by simp) fun x c' hc' _=>Tot.ret hc'
 refine Tot.dite (fun _=> ?_) (fun _=> ?_)
 ·exact Tot.pick hb k2 (by simp) fun x c' hc' _=>Tot.ret hc'
 refine Tot.dite (fun _=> ?_) (fun _=> ?_)
 ·exact Tot.pick hb k2 (by simp) fun x c' hc' _=>Tot.ret hc'
 exact Tot.ret k2
structure AQ (ps:List Int)(cs:List B7):Prop where
 pr:PsR ps
 pl:ps.length<=1000
 cl:cs.length<=1000
 ck:∀c∈cs,c.2.2.length<=1000
theorem AQ.cns {ps:List Int}{cs:List B7}(h:AQ ps cs):Uf cs:=⟨by have:=h.cl;omega,fun c hc=>by have:=h.ck c hc;unfold Ayh;omega⟩
theorem PD.aq {d:Dev}{ks:List Int}{cs:List B7}{ps:List Int}(h:PD d ks cs ps):AQ ps cs/\ps.length<=64/\cs.length<=100:=by
 have hl:=h.pl.len;have hk:=h.len;have hc:=Ats h.cns;exact⟨⟨fun p hp=>by have:=h.tile p hp;omega,by omega,by omega,fun c hm=>by have:=(Att h.cns hm).1;omega⟩,by omega,hc.2⟩
theorem Aq9 {b:List Int}{c:Cur}(hb:M2 b)(hc:B5 b c):Tot (Nu (b,c)) (fun r=>AQ r.2.2.2.1 r.2.2.1/\B5 b r.2.2.2.2):=by
 unfold Nu;refine Tot.bind (Aq3 hb hc) fun v hv=> ?_
 obtain⟨d,ks,cs,ps,cu⟩:=v;obtain⟨hp,hcu⟩:=hv;simp only at hp hcu;obtain⟨haq,hpl,hcl⟩:=hp.aq;have hkl:=hp.len;dsimp only;refine Tot.join (A:=fun v=>B5 b (v.1,v.2.1)/\AQ v.2.2.2.2.2.2.2.1 v.2.2.2.2.2.2.2.2) ?_ fun v hv=>Tot.ret ⟨hv.2,hv.1⟩
 refine Tot.below hb hcu fun x1 c1 k1 _ _=> ?_
 dsimp only;refine Tot.dite (fun _=> ?_) (fun _=> ?_)
 ·exact Tot.bind (Aq8 hb k1) fun v4 h4=>Tot.next ⟨h4,haq⟩
 refine Tot.dite (fun _=> ?_) (fun _=> ?_)
 ·refine Tot.below hb k1 fun x2 c2 k2 _ _=> ?_
  exact Tot.app (by simp only[Ab,Ac];omega) (by omega) (Tot.next ⟨k2,haq⟩)
 refine Tot.dite (fun _=> ?_) (fun _=> ?_)
 ·refine Tot.dite (fun h0=> ?_) (fun _=>Tot.next ⟨k1,haq⟩);refine Tot.below hb k1 fun x2 c2 k2 _ q2=> ?_
  have q2:=q2 h0;refine Tot.place hb k2 (by omega) fun x3 c3 k3 q3=> ?_
  refine Tot.gin q2.1 q2.2 (Tot.get q2.1 q2.2 fun y _ _=>Tot.next ⟨k3,?_⟩);refine⟨fun p hp=> ?_,by rw[Bh];omega,by simp only;omega,haq.ck⟩;rcases Sk hp with q | q
  ·exact haq.pr p q
  ·rw[q];exact q3
 refine Tot.dite (fun _=> ?_) (fun _=> ?_)
 ·refine Tot.place hb k1 (by omega) fun x2 c2 k2 _=> ?_
  refine Tot.below hb k2 fun x3 c3 k3 _ _=> ?_
  refine Tot.place hb k3 (by omega) fun x4 c4 k4 _=> ?_
  refine Tot.app (by simp only[Ab,Ac];omega) (by omega) (Tot.next ⟨k4,?_⟩);refine⟨haq.pr,by simp only;omega,by simp only[Ad,Ab,Ac];omega,fun c hc=> ?_⟩;rcases List.mem_append.1 hc with q | q
  ·exact haq.ck c q
  ·rw[List.mem_singleton]at q;rw[q];simp
 refine Tot.dite (fun _=> ?_) (fun _=> ?_)
 ·refine Tot.app (by simp only[Ab,Ac];omega) (by omega) (Tot.next ⟨k1,?_⟩);refine⟨haq.pr,by simp only;omega,by simp only[Ad,Ab,Ac];omega,fun c hc=> ?_⟩;rcases List.mem_append.1 hc with q | q
  ·exact haq.ck c q
  ·rw[List.mem_singleton]at q;rw[q];simp
 exact Tot.next ⟨k1,haq⟩
theorem Ara {b:List Int}{c:Cur}(hb:M2 b)(hc:B5 b c):Tot (Kl (b,c)) (fun r=>AQ r.2.1 r.2.2.1/\B5 b r.2.2.2):=by
 unfold Kl;dsimp only;refine Tot.below hb hc fun x1 c1 k1 _ q1=> ?_
 have q1:=q1 (by omega);rw[Aj (z:=3+x1) (by omega)];refine Tot.lp (fun s=>(0<=s.1/\s.1<=3+x1)/\B5 b (s.2.1,s.2.2.1)/\(PsR s.2.2.2.1/\(s.2.2.2.1.length:Int)=2*s.1)/\(s.2.2.2.2.length:Int)<=4*s.1/\∀c∈s.2.2.2.2,c.2.2.length<=1000) (fun s=>(3+x1 - s.1).toNat) ⟨⟨by simp only;omega,by simp only;omega⟩,k1,⟨fun p hp=>(by cases hp),by simp⟩,by simp,fun c hc=>(by cases hc)⟩ (fun s hs=> ?_);obtain⟨y,p1,p2,ps,cs⟩:=s;obtain⟨⟨y0,y1⟩,hcu,⟨hps,hpl⟩,hcl,hck⟩:=hs;simp only at y0 y1 hcu hps hpl hcl hck;dsimp only;refine Tot.dite (fun h1=> ?_) (fun h1=>Tot.exit (Tot.ret ⟨⟨hps,by simp only;omega,by simp only;omega,hck⟩,hcu⟩));rw[Aj (z:=y*3) (by omega),Aj (z:=y*3+2) (by omega),Aj (z:=2*y) (by omega),Aj (z:=2*y+1) (by omega),Aj (z:=y+1) (by omega)];refine Tot.app (by simp only[Ab,Ac];omega) (by omega) ?_
 have hps' :PsR (ps++[y*3,y*3+2]):=fun p hp=>by
  rcases List.mem_append.1 hp with q | q
  ·exact hps p q
  ·simp only[List.mem_cons,List.not_mem_nil,or_false]at q;omega
 have hpl' :((ps++[y*3,y*3+2]).length:Int)=2*(y+1):=by simp only[Ad,Ab,Ac];omega
 refine Tot.below hb hcu fun x2 c2 k2 _ q2=> ?_
 have q2:=q2 (by omega);have one:∀{xs:List B7},(∀c∈xs,c.2.2.length<=1000)->∀c∈xs++[(y,((2*y,0),[(2*y+1,0)]))],c.2.2.length<=1000:=fun h c hc=>by
  rcases List.mem_append.1 hc with q | q
  ·exact h c q
  ·rw[List.mem_singleton]at q;rw[q];simp
 refine Tot.lp (fun s=>(0<=s.1/\s.1+(s.2.length:Int)<=4*y+3)/\∀c∈s.2,c.2.2.length<=1000) (fun s=>s.1.toNat) ⟨⟨by simp only;omega,by simp only;omega⟩,hck⟩ (fun s hs=> ?_);obtain⟨i,cs2⟩:=s;obtain⟨⟨i0,i1⟩,hk2⟩:=hs;simp only at i0 i1 hk2;dsimp only;refine Tot.dite (fun h2=> ?_) (fun h2=>Tot.exit ?_)
 ·refine Tot.app (by simp only[Ab,Ac];omega) (by omega) ?_
  rw[Aj (z:=i - 1) (by omega)];exact Tot.next ⟨⟨⟨by simp only;omega,by simp only[Ad,Ab,Ac];omega⟩,one hk2⟩,by simp only;omega⟩
 ·refine Tot.app (by simp only[Ab,Ac];omega) (by omega) ?_
  exact Tot.next ⟨⟨⟨by simp only;omega,by simp only;omega⟩,k2,⟨hps',hpl'⟩,by simp only[Ad,Ab,Ac];omega,one hk2⟩,by simp only;omega⟩
theorem Azu {xs:List Int}(h:0<(xs.length:Int)):Bs xs 1 (xs.length:Int)=some (xs.drop 1):=by
 have:=M5 (xs:=xs) (k:=1) (by omega);simpa using this
theorem Axo (d:Dev):0<=(if DOk d then Aq d else 0)/\(if DOk d then Aq d else 0)<=1000000:=by
 have:=Ayk d;have e:rnN d=if DOk d then Aq d else 0:=rfl
 rw[<-e];omega
theorem Amz {b:List Int}{c:Cur}(hb:M2 b)(hc:B5 b c):Tot (Lw (b,c)) (fun r=>AQ r.2.1 r.2.2.1):=by
 unfold Lw;dsimp only;refine Tot.bind (Aq9 hb hc) fun v hv=> ?_
 obtain⟨d,ks,cs,ps,cu⟩:=v;obtain⟨haq,hcu⟩:=hv;simp only at haq hcu;refine Tot.once hb hcu fun x1 c1 k1=> ?_
 dsimp only;refine Tot.ite (fun _=> ?_) (fun _=> ?_)
 ·refine Tot.bind (Ara hb k1) fun v3 h3=> ?_
  obtain⟨d3,ps3,cs3,cu3⟩:=v3;obtain⟨haq3,hcu3⟩:=h3;simp only at haq3 hcu3;dsimp only;refine Tot.below hb hcu3 fun x4 c4 k4 _ _=> ?_
  refine Tot.bindEq (Wu _ _) ?_
  have hl:=Sp d3 x4;refine Tot.below hb k4 fun x6 c6 k6 _ _=> ?_
  dsimp only;refine Tot.dite (fun _=> ?_) (fun _=> ?_)
  ·refine Tot.below hb k6 fun x8 c8 k8 _ _=> ?_
   exact Tot.bindEq (Sq _ _) (Tot.ret haq3)
  refine Tot.dite (fun _=> ?_) (fun _=> ?_)
  ·refine Tot.bindEq (Dq _) ?_
   refine Tot.place hb k6 (Axo d3) fun x9 c9 k9 _=> ?_
   exact Tot.app (by simp only[Ab,Ac];omega) (by omega) (Tot.ret haq3)
  refine Tot.dite (fun _=> ?_) (fun _=>Tot.ret haq3);exact Tot.dite (fun h0=>Tot.bindEq (Azu h0) (Tot.ret haq3)) (fun _=>Tot.ret haq3)
 ·refine Tot.below hb k1 fun x4 c4 k4 _ _=> ?_
  refine Tot.bindEq (Wu _ _) ?_
  have hl:=Sp d x4;refine Tot.below hb k4 fun x6 c6 k6 _ _=> ?_
  dsimp only;refine Tot.dite (fun _=> ?_) (fun _=> ?_)
  ·refine Tot.below hb k6 fun x8 c8 k8 _ _=> ?_
   exact Tot.bindEq (Sq _ _) (Tot.ret haq)
  refine Tot.dite (fun _=> ?_) (fun _=> ?_)
  ·refine Tot.bindEq (Dq _) ?_
   refine Tot.place hb k6 (Axo d) fun x9 c9 k9 _=> ?_
   exact Tot.app (by simp only[Ab,Ac];omega) (by omega) (Tot.ret haq)
  refine Tot.dite (fun _=> ?_) (fun _=>Tot.ret haq);exact Tot.dite (fun h0=>Tot.bindEq (Azu h0) (Tot.ret haq)) (fun _=>Tot.ret haq)
theorem Aef {b:List Int}(hb:M2 b):Tot (Jq b) (fun r=>AQ r.2.1 r.2.2.1):=by
 unfold Jq;obtain⟨c,e,hc⟩:=Ayf hb;refine Tot.bindEq e ?_
 refine Tot.bind (Amz hb hc) fun v hv=> ?_
 exact Tot.ret hv
end Go.Pf
/-
  Own work. Cheapest paths, plainly: both sides walk back along the same nodes.
-/
namespace Go.Pf
open Go Go.Pu
set_option linter.unusedVariables false
theorem Azv (p:Nat->Prop) [DecidablePred p]:∀n,p n->∃k,k<=n/\p k/\∀i,i<k->¬p i:=by
 intro n
 induction n using Nat.strongRecOn with
 | ind n ih=>
  intro h;by_cases q:∃i,i<n/\p i
  ·obtain⟨i,hi,hp⟩:=q;obtain⟨k,h1,h2,h3⟩:=ih i hi hp;exact⟨k,by omega,h2,h3⟩
  ·exact⟨n,Nat.le_refl _,h,fun i hi hp=>q ⟨i,hi,hp⟩⟩
theorem Xa:∀(N:Nat) (xs:List Int),xs.Nodup->(∀x∈xs,0<=x/\x<(N:Int))->xs.length<=N
 | 0,xs,_,h=>by
  cases xs with
  | nil=>simp
  | cons a r=>have:=h a (by simp);omega
 | N+1,xs,hn,h=>by
  have h1:=Xa N (xs.erase (N:Int)) (hn.erase _) (fun x hx=>by
   have:=(List.Nodup.mem_erase_iff hn).1 hx;have:=h x this.2;omega)
  have h2:=List.length_erase (a:=(N:Int)) (l:=xs);split at h2<;>omega
def okU (cs D:List Int)(v:Nat)(u:Int):Prop:=0<=Am D u.toNat/\Am D u.toNat+Am cs v=Am D v
instance (cs D:List Int)(v:Nat)(u:Int):Decidable (okU cs D v u):=by unfold okU;exact inferInstance
theorem Awo {N:Nat}{G:List (List Int)}{cs ss D:List Int}(h:M8 N G cs ss D){v:Nat}(hv:v<N)(h0:0<Am D v):∃k,k<(gAt G v).length/\okU cs D v (Am (gAt G v) k)/\∀i,i<k->¬okU cs D v (Am (gAt G v) i):=by
 rcases h.1.2.2 v hv (by omega)with e | ⟨u,hu,hm,g0,g1⟩
 ·omega
 ·have hsat:=h.2.2 u v hu hv hm g0;unfold Sat at hsat;obtain⟨j,hj,ej⟩:=Ib hm;obtain⟨k,h1,h2,h3⟩:=Azv (fun k=>okU cs D v (Am (gAt G v) k)) j (by
   unfold okU;rw[ej,Int.toNat_natCast];omega)
  exact⟨k,by omega,h2,h3⟩
noncomputable def Arb (G:List (List Int))(cs D:List Int)(v2:Int×List Int):Option ((Int×List Int)⊕List Int):=
 (Ak 0 D v2.1).bind fun v3=>
 let v4:Bool:=decide (0<v3)
 bif v4 then(
  B1 (
   Pu.loop (fun(v5:(Int×Int))=>
    (Ak [] G v2.1).bind fun v6=>
    let v7:Int:=((v6).length:Int)
    let v8:Bool:=decide (v5.2<v7)
    bif v8 then(
     let v9:Bool:=decide (v5.1<0)
     bif v9 then(
      (Ak [] G v2.1).bind fun v10=>
      (Ak 0 v10 v5.2).bind fun v11=>
      (Ak 0 D v11).bind fun v12=>
      let v13:Bool:=decide (0<=v12)
      bif v13 then(
       (Ak 0 D v11).bind fun v14=>
       (Ak 0 cs v2.1).bind fun v15=>
       let v16:Int:=wrap .i64 (v14+v15)
       (Ak 0 D v2.1).bind fun v17=>
       let v18:Bool:=decide (v16=v17)
       bif v18 then(
        let v19:Int:=wrap .i64 (v5.2+1)
        some (.inl (v11,v19)))else
       let v19:Int:=wrap .i64 (v5.2+1)
       some (.inl (v5.1,v19)))else
      let v14:Int:=wrap .i64 (v5.2+1)
      some (.inl (v5.1,v14)))else
     Option.map Sum.inr (
      some (.inl v5.1)))else
    Option.map Sum.inr (
     some (.inl v5.1))) ((-1),0)) (fun(v5:Int)=>
   let v6:List Int:=[v5]
   (A3 8 v2.2 v6).bind fun v7=>
   some (.inl (v5,v7))))else
 Option.map Sum.inr (
  let v5:Int:=((v2.2).length:Int)
  let v6:Int:=wrap .i64 (v5 - 1)
  Pu.loop (Avr v2.2) (v6,([]:List Int)))
noncomputable def Arc (G:List (List Int))(cs ss D:List Int)(v10:Int×List Int):Option ((Int×List Int)⊕List Int):=
 (Et (ss,v10.1)).bind fun v11=>
 let v12:Bool:= !v11
 bif v12 then(
  (Ak [] G v10.1).bind fun v13=>
  let v14:Int:=((v13).length:Int)
  B1 (
   Pu.loop (fun(v15:Int)=>
    let v16:Bool:=decide (v15<v14)
    bif v16 then(
     (Ak 0 v13 v15).bind fun v17=>
     (gin (D).length v17).bind fun _=>
     (Ak 0 D v17).bind fun v19=>
     let v20:Bool:=decide (v19≠(-1))
     bif v20 then(
      (gin (D).length v17).bind fun _=>
      (Ak 0 D v17).bind fun v22=>
      (Ak 0 cs v10.1).bind fun v23=>
      let v24:Int:=wrap .i64 (v22+v23)
      (gin (D).length v10.1).bind fun _=>
      (Ak 0 D v10.1).bind fun v26=>
      let v27:Bool:=decide (v24=v26)
      bif v27 then(
       Option.map Sum.inr (
        some (.inl v17)))else
      let v28:Int:=wrap .i64 (v15+1)
      some (.inl v28))else
     let v21:Int:=wrap .i64 (v15+1)
     some (.inl v21))else
    Option.map Sum.inr (
     some (.inl v10.1))) 0) (fun(v15:Int)=>
   let v16:List Int:=[v15]
   (A3 8 v16 v10.2).bind fun v17=>
   some (.inl (v15,v17))))else
 Option.map Sum.inr (
  some v10.2)
def Chn (G:List (List Int)):List Int->Prop
 | x::y::r=>x∈gAt G y.toNat/\Chn G (y::r)
 | _=>True
theorem Chn.snoc {G:List (List Int)}{u v:Int}(h:u∈gAt G v.toNat):∀xs:List Int,Chn G (xs++[u])->Chn G (xs++[u]++[v])
 | [],_=>⟨h,trivial⟩
 | [x],hc=>⟨hc.1,h,trivial⟩
 | x::y::r,hc=>⟨hc.1,Chn.snoc h (y::r) hc.2⟩
theorem Chn.at {G:List (List Int)}:∀(xs:List Int) (j:Nat),Chn G xs->j+1<xs.length->Am xs j∈gAt G (Am xs (j+1)).toNat
 | [],j,_,h=>by simp at h
 | [x],j,_,h=>by simp at h
 | x::y::r,0,hc,_=>hc.1
 | x::y::r,j+1,hc,h=>Chn.at (y::r) j hc.2 (by simp only[Ab]at h ⊢;omega)
theorem Am0 {N:Nat}{G:List (List Int)}{cs ss D:List Int}(hG:Wz N G)(hc:Zm N cs)(h:M8 N G cs ss D)(hss:∀s∈ss,0<=s/\s<(N:Int))(hsl:ss.length<=1048576):∀(m:Nat) (v:Nat),v<N->Am D v=(m:Int)->
 ∃ps:List Int,((ps++[(v:Int)]).Pairwise fun x y=>Am D x.toNat<Am D y.toNat)/\(∀x∈ps,(0<=x/\x<(N:Int))/\0<=Am D x.toNat/\Am D x.toNat<Am D v)/\
 (∀acc:List Int,acc.length+m<=200000000->(acc.length+m:Nat)<=200000000->loop (Arc G cs ss D) ((v:Int),acc)=some (ps++acc))/\
 (∃w,ps++[(v:Int)]=w)/\
 (∀acc:List Int,acc.length+m<=200000000->∃full:List Int,loop (Arb G cs D) ((v:Int),acc)=loop (Arb G cs D) (((ps++[(v:Int)]).headD 0),acc++ps.reverse)/\Am D ((ps++[(v:Int)]).headD 0).toNat=0/\(0<=(ps++[(v:Int)]).headD 0/\(ps++[(v:Int)]).headD 0<(N:Int)))/\
 Chn G (ps++[(v:Int)])/\(ps++[(v:Int)]).headD 0∈ss:=by
 intro m
 induction m using Nat.strongRecOn with
 | ind m ih=>
  intro v hv e;have hDl:=h.1.1;have hGl:=hG.1;have hcl:=hc.1;by_cases hm0:m=0
  ·subst hm0;have hst:(v:Int)∈ss:=by
    rcases h.1.2.2 v hv (by omega)with e2 | ⟨u,hu,hm,g0,g1⟩
    ·exact e2.1
    ·have:=hc.2 v hv;omega
   refine⟨[],by simp,by simp,fun acc hacc _=> ?_,⟨_,rfl⟩,fun acc hacc=>⟨[],?_,?_,?_⟩,trivial,hst⟩
   ·rw[Cq];unfold Arc;rw[O8 _ _ (by omega)];simp only[Aa];rw[dt hst];rfl
   ·simp
   ·simp;exact e
   ·simp;exact hv
  ·have hD0:0<Am D v:=by omega
   obtain⟨k,hk,hok,hmin⟩:=Awo h hv hD0;have hgv:=hG.2.2 v hv;have hmem:Am (gAt G v) k∈gAt G v:=by rw[<-Dm hk];exact List.getElem_mem hk
   have hur:=hgv.2 _ hmem;have hcv:=hc.2 v hv;have bv:=h.1.bound hG hv;have hbu:∀i,i<(gAt G v).length->∃u:Nat,Am (gAt G v) i=(u:Int)/\u<N∧-1<=Am D u/\Am D u<=82800000:=by
    intro i hi;have hmem:Am (gAt G v) i∈gAt G v:=by rw[<-Dm hi];exact List.getElem_mem hi
    have hur:=hgv.2 _ hmem;have:=h.1.bound hG (v:=(Am (gAt G v) i).toNat) (by omega);exact⟨(Am (gAt G v) i).toNat,by omega,by omega,this.1,this.2⟩
   obtain⟨u,hu⟩:∃u:Nat,Am (gAt G v) k=(u:Int):=⟨(Am (gAt G v) k).toNat,by omega⟩;have huN:u<N:=by omega
   have hok2:=hok;unfold okU at hok;rw[hu,Int.toNat_natCast]at hok;obtain⟨n,hn⟩:∃n:Nat,Am D u=(n:Int):=⟨(Am D u).toNat,by omega⟩;have hnst:(v:Int)∉ss:=fun q=>by
    have:=h.2.1 _ q;rw[Int.toNat_natCast]at this;omega
   obtain⟨ps,p1,p2,p3,_,p5,p6,p7⟩:=ih n (by omega) u huN hn;have headE:(ps++[(u:Int)]++[(v:Int)]).headD 0=(ps++[(u:Int)]).headD 0:=by cases ps<;>rfl
   refine⟨ps++[(u:Int)],?_,fun x hx=> ?_,fun acc hacc _=> ?_,⟨_,rfl⟩,fun acc hacc=> ?_,Chn.snoc (by rw[Int.toNat_natCast,<-hu];exact hmem) ps p6,by rw[headE];exact p7⟩
   ·rw[List.pairwise_append];refine⟨p1,by simp,fun x hx y hy=> ?_⟩;have hy:=List.mem_singleton.1 hy;subst hy;rw[Int.toNat_natCast];rcases List.mem_append.1 hx with q | q
    ·have:=(p2 x q).2;omega
    ·have hq:=List.mem_singleton.1 q;subst hq;rw[Int.toNat_natCast];omega
   ·rcases List.mem_append.1 hx with q | q
    ·have:=p2 x q;omega
    ·have hq:=List.mem_singleton.1 q;subst hq;rw[Int.toNat_natCast];omega
   ·rw[Cq];have estep:Arc G cs ss D ((v:Int),acc)=some (.inl ((u:Int),(u:Int)::acc)):=by
     unfold Arc;rw[O8 _ _ (by omega)];simp only[Aa];rw[df hnst,Bool.not_false,cond_true,L0 (by omega)];simp only[Aa];have inner:Pu.loop (fun(v15:Int)=>
      let v16:Bool:=decide (v15<((gAt G v).length:Int))
      bif v16 then(
       (Ak 0 (gAt G v) v15).bind fun v17=>
       (gin (D).length v17).bind fun _=>
       (Ak 0 D v17).bind fun v19=>
       let v20:Bool:=decide (v19≠(-1))
       bif v20 then(
        (gin (D).length v17).bind fun _=>
        (Ak 0 D v17).bind fun v22=>
        (Ak 0 cs (v:Int)).bind fun v23=>
        let v24:Int:=wrap .i64 (v22+v23)
        (gin (D).length (v:Int)).bind fun _=>
        (Ak 0 D (v:Int)).bind fun v26=>
        let v27:Bool:=decide (v24=v26)
        bif v27 then(
         Option.map Sum.inr (
          some (.inl v17)))else
        let v28:Int:=wrap .i64 (v15+1)
        some (.inl v28))else
       let v21:Int:=wrap .i64 (v15+1)
       some (.inl v21))else
      Option.map Sum.inr (
       some (.inl (v:Int)))) 0=some ((.inl (u:Int)):Int⊕((Int×List Int)⊕List Int)):=by
      refine Ao k (fun i=>(i:Int)) (fun i hi=> ?_) ?_
      ·obtain⟨w,hw,hwN,b1,b2⟩:=hbu i (by omega);have hno:=hmin i hi;unfold okU at hno;rw[hw,Int.toNat_natCast]at hno
       try dsimp only
       rw[dt (show(i:Int)<((gAt G v).length:Int)by omega),cond_true,A0 (by omega)];simp only[Aa];rw[hw,As (by omega),A0 (show w<D.length by omega)];simp only[Aa];rw[A0 (show v<cs.length by omega),As (show v<D.length by omega),A0 (show v<D.length by omega),Aj (z:=(i:Int)+1) (by omega)];simp only[Aa];by_cases g:Am D w≠-1
       ·rw[dt g,cond_true,Aj (by omega),df (by omega),cond_false];rfl
       ·rw[df g,cond_false];rfl
      ·try dsimp only
       rw[dt (show(k:Int)<((gAt G v).length:Int)by omega),cond_true,A0 hk];simp only[Aa];rw[hu,As (by omega),A0 (show u<D.length by omega)];simp only[Aa];rw[A0 (show v<cs.length by omega),As (show v<D.length by omega),A0 (show v<D.length by omega)];simp only[Aa];rw[dt (show Am D u≠-1 by omega),cond_true,Aj (by omega),dt (by omega),cond_true];rfl
     dsimp only at inner;rw[inner,J6,gapp_ok (by simp only[Ab,Ac];omega)];rfl
    rw[estep];simp only;rw[p3 _ (by simp only[Ab];omega) (by simp only[Ab];omega)];simp
   ·have estep:Arb G cs D ((v:Int),acc)=some (.inl ((u:Int),acc++[(u:Int)])):=by
     unfold Arb
     try dsimp only
     rw[A0 (show v<D.length by omega)];simp only[Aa];rw[dt hD0,cond_true];refine Eq.trans (congrArg (fun o=>B1 o _) (?_:_=some (.inl (u:Int)))) ?_
     ·have hnext:∀z:Int,decide (z<0)=false->z=(u:Int)->True:=fun _ _ _=>trivial
      refine Ao (k+1) (fun i=>(if i<=k then(-1:Int)else(u:Int),(i:Int))) (fun i hi=> ?_) ?_
      ·obtain⟨w,hw,hwN,b1,b2⟩:=hbu i (by omega)
       try dsimp only
       rw[L0 (by omega)];simp only[Aa];rw[dt (show(i:Int)<((gAt G v).length:Int)by omega),cond_true,if_pos (by omega),dt (by omega),cond_true,A0 (by omega)];simp only[Aa];rw[hw,A0 (show w<D.length by omega)];simp only[Aa];rw[A0 (show v<cs.length by omega),Aj (z:=(i:Int)+1) (by omega)];simp only[Aa];by_cases qi:i=k
       ·subst qi;have:w=u:=by omega
        subst this;rw[dt (by omega),cond_true,Aj (by omega),dt (by omega),cond_true,if_neg (by omega)];rfl
       ·have hno:=hmin i (by omega);unfold okU at hno;rw[hw,Int.toNat_natCast]at hno;rw[if_pos (show i+1<=k by omega)];by_cases g:0<=Am D w
        ·rw[dt g,cond_true,Aj (by omega),df (by omega),cond_false];rfl
        ·rw[df g,cond_false];rfl
      ·try dsimp only
       rw[L0 (by omega),if_neg (by omega),df (show ¬(u:Int)<0 by omega)];simp only[Aa];cases decide (((k+1:Nat):Int)<((gAt G v).length:Int))<;>rfl
     ·rw[J6,gapp_ok (by simp only[Ab,Ac];omega)];rfl
    obtain⟨_,q1,q2,q3⟩:=p5 (acc++[(u:Int)]) (by simp only[Ad,Ab,Ac];omega);refine⟨[],?_,by rw[headE];exact q2,by rw[headE];exact q3⟩;rw[Cq,estep];simp only;rw[q1,headE];simp
theorem Adh {N:Nat}{G:List (List Int)}{cs ss D:List Int}(hG:Wz N G)(hc:Zm N cs)(h:M8 N G cs ss D)(hss:∀s∈ss,0<=s/\s<(N:Int))(hsl:ss.length<=1048576){v:Nat}(hv:v<N)(h0:0<=Am D v):
 ∃(a:Int) (t:List Int),Hj (G,(cs,(D,(v:Int))))=some (a::t)/\loop (Arc G cs ss D) ((v:Int),[(v:Int)])=some (a::t)/\(a::t).Nodup/\(∀x∈a::t,0<=x/\x<(N:Int))/\(∀x∈t,x∉ss)/\a∈ss/\Chn G (a::t)/\(a::t).getLast? =some (v:Int):=by
 obtain⟨m,hm⟩:∃m:Nat,Am D v=(m:Int):=⟨(Am D v).toNat,by omega⟩;have bv:=h.1.bound hG hv;obtain⟨ps,p1,p2,p3,_,p5,p6,p7⟩:=Am0 hG hc h hss hsl m v hv hm;obtain⟨_,q1,q2,q3⟩:=p5 [(v:Int)] (by simp only[Ab,Ac];omega);have hDl:=h.1.1;have hnd:(ps++[(v:Int)]).Nodup:=p1.imp (fun hq e=>by subst e;omega);have hrange:∀x∈ps++[(v:Int)],0<=x/\x<(N:Int):=by
  intro x hx;rcases List.mem_append.1 hx with q | q
  ·exact(p2 x q).1
  ·have:=List.mem_singleton.1 q;omega
 have hlen:=Xa N _ hnd hrange;have hN:=hG.2.1;obtain⟨a,t,hat⟩:∃a t,ps++[(v:Int)]=a::t:=by
  cases ps with
  | nil=>exact⟨_,_,rfl⟩
  | cons a r=>exact⟨_,_,rfl⟩
 refine⟨a,t,?_,?_,by rw[<-hat];exact hnd,by rw[<-hat];exact hrange,fun x hx hxs=> ?_,by rw[hat]at p7;exact p7,by rw[<-hat];exact p6,by rw[<-hat];simp⟩
 ·have eS:Hj (G,(cs,(D,(v:Int))))=loop (Arb G cs D) ((v:Int),[(v:Int)]):=rfl;rw[eS,q1,Cq];unfold Arb;rw[hat]at q2 q3 hlen ⊢;simp only[List.headD_cons]at q2 q3 ⊢;obtain⟨w,hw⟩:∃w:Nat,a=(w:Int):=⟨a.toNat,by omega⟩;rw[hw,Int.toNat_natCast]at q2;rw[hw,A0 (show w<D.length by omega)];simp only[Aa];rw[df (show ¬0<Am D w by omega),cond_false];have er:[(v:Int)]++ps.reverse=(a::t).reverse:=by rw[<-hat];simp
  rw[er];have hl:(a::t).reverse.length=t.length+1:=by simp
  simp only[Ab]at hlen;have hw2:wrap .i64 (((a::t).reverse.length:Int) - 1)=(((a::t).reverse.length:Nat):Int) - 1:=by rw[Aj (by omega)]
  rw[hw2,Asy (a::t).reverse (a::t).reverse.length [] (Nat.le_refl _) (by omega) (by simp;omega),List.take_of_length_le (Nat.le_refl _),List.reverse_reverse,hw];rfl
 ·rw[p3 [(v:Int)] (by simp only[Ab,Ac];omega) (by simp only[Ab,Ac];omega),hat]
 ·rw[hat]at p1;rw[List.pairwise_cons]at p1;have h1:=p1.1 x hx;have h2:=h.2.1 x hxs;rw[hat]at q2;simp only[List.headD_cons]at q2;omega
theorem Ard {N:Nat}{G:List (List Int)}{cs ss D:List Int}(hG:Wz N G)(hc:Zm N cs)(h:M8 N G cs ss D)(hss:∀s∈ss,0<=s/\s<(N:Int))(hsl:ss.length<=1048576){v:Nat}(hv:v<N)(h0:0<=Am D v):
 ∃(a:Int) (t:List Int),Hj (G,(cs,(D,(v:Int))))=some (a::t)/\loop (Arc G cs ss D) ((v:Int),[(v:Int)])=some (a::t)/\(a::t).Nodup/\(∀x∈a::t,0<=x/\x<(N:Int))/\(∀x∈t,x∉ss):=by
 obtain⟨a,t,e1,e2,e3,e4,e5,_⟩:=Adh hG hc h hss hsl hv h0;exact⟨a,t,e1,e2,e3,e4,e5⟩
theorem Aeg {N:Nat}{G R:List (List Int)}{cs ss D:List Int}(hG:Wz N G)(hc:Zm N cs)(hD:G2 ((G,R),(cs,ss))=some D)(h:M8 N G cs ss D)(hss:∀s∈ss,0<=s/\s<(N:Int))(hsl:ss.length<=1048576)(tgt:Int):
 Ew ((G,R),(cs,(ss,tgt)))=if(0<=tgt/\tgt<(N:Int))/\0<=Am D tgt.toNat then Hj (G,(cs,(D,tgt)))else some []:=by
 have hDl:=h.1.1;have hN:=hG.2.1;unfold Ew
 try dsimp only
 rw[hD];simp only[Aa];rw[Aj (by omega),B4];simp only[Aa];by_cases g:0<=tgt/\tgt<(N:Int)
 rotate_left
 ·rw[df (by omega),if_neg (fun e=>g e.1)];rfl
 rw[dt (by omega),Bool.not_true,cond_false];obtain⟨v,rfl⟩:∃v:Nat,tgt=(v:Int):=⟨tgt.toNat,by omega⟩;have hv:v<N:=by omega
 have bv:=h.1.bound hG hv;rw[As (by omega),A0 (show v<D.length by omega),Int.toNat_natCast];simp only[Aa];by_cases g2:Am D v= -1
 ·rw[dt g2,if_neg (fun e=>by omega)];rfl
 rw[df g2,cond_false,if_pos ⟨g,by omega⟩];obtain⟨a,t,e1,e2,_⟩:=Ard hG hc h hss hsl hv (by omega);rw[e1];exact e2
end Go.Pf
/-
  Own work. A route that grows sink by sink, plainly.
-/
namespace Go.Pf
open Go Go.Pu
set_option linter.unusedVariables false
noncomputable def At5 (G:List (List Int))(cs snks:List Int)(v3:Int×(List Int×List Int)):Option ((Int×(List Int×List Int))⊕((List Int×List Int)×Bool)):=
 let v4:Int:=((snks).length:Int)
 let v5:Bool:=decide (v3.1<v4)
 bif v5 then(
  (Ak 0 snks v3.1).bind fun v6=>
  let v7:Bool:=decide (v6<0)
  bif v7 then(
   Option.map Sum.inr (
    some ((([]:List Int),([]:List Int)),false)))else
  (Ak 0 snks v3.1).bind fun v8=>
  let v9:Int:=((G).length:Int)
  let v10:Bool:=decide (v9<=v8)
  bif v10 then(
   Option.map Sum.inr (
    some ((([]:List Int),([]:List Int)),false)))else
  (Ak 0 snks v3.1).bind fun v11=>
  (D6 (v3.2.1,v11)).bind fun v12=>
  bif v12 then(
   let v13:Int:=wrap .i64 (v3.1+1)
   some (.inl (v13,v3.2)))else
  (Gu (G,(cs,v3.2.1))).bind fun v13=>
  (Ak 0 snks v3.1).bind fun v14=>
  (gin (v13).length v14).bind fun _=>
  (Ak 0 v13 v14).bind fun v16=>
  let v17:Bool:=decide (v16<0)
  bif v17 then(
   Option.map Sum.inr (
    some ((([]:List Int),([]:List Int)),false)))else
  (Ak 0 snks v3.1).bind fun v18=>
  (Hj (G,(cs,(v13,v18)))).bind fun v19=>
  Pu.loop (fun(v20:(Int×Int))=>
   let v21:Int:=((v3.2.1).length:Int)
   let v22:Bool:=decide (v20.1<v21)
   bif v22 then(
    (gin (v3.2.1).length v20.1).bind fun _=>
    (Ak 0 v3.2.1 v20.1).bind fun v24=>
    (gin (v19).length 0).bind fun _=>
    (Ak 0 v19 0).bind fun v26=>
    let v27:Bool:=decide (v24=v26)
    bif v27 then(
     let v28:Int:=wrap .i64 (v20.1+1)
     some (.inl (v28,v20.1)))else
    let v28:Int:=wrap .i64 (v20.1+1)
    some (.inl (v28,v20.2)))else
   Option.map Sum.inr (
    Pu.loop (fun(v23:(Int×(Int×(List Int×List Int))))=>
     let v24:Int:=((v19).length:Int)
     let v25:Bool:=decide (v23.2.1<v24)
     bif v25 then(
      (gin (v19).length v23.2.1).bind fun _=>
      (Ak 0 v19 v23.2.1).bind fun v27=>
      let v28:List Int:=[v27]
      (A3 8 v23.2.2.1 v28).bind fun v29=>
      let v30:List Int:=[v23.1]
      (A3 8 v23.2.2.2 v30).bind fun v31=>
      let v32:Int:=((v29).length:Int)
      let v33:Int:=wrap .i64 (v32 - 1)
      let v34:Int:=wrap .i64 (v23.2.1+1)
      some (.inl (v33,(v34,(v29,v31)))))else
     Option.map Sum.inr (
      let v26:Int:=wrap .i64 (v3.1+1)
      some (.inl (v26,v23.2.2)))) (v20.2,(1,v3.2)))) (0,0))else
 Option.map Sum.inr (
  some (v3.2,true))
noncomputable def At6 (GR:List (List Int)×List (List Int))(cs snks:List Int)(v4:Int×(List Int×List Int)):Option ((Int×(List Int×List Int))⊕((List Int×List Int)×Bool)):=
 let v5:Bool:=decide (v4.1<((snks).length:Int))
 bif v5 then(
  (Ak 0 snks v4.1).bind fun v6=>
  (Et (v4.2.1,v6)).bind fun v7=>
  bif v7 then(
   let v8:Int:=wrap .i64 (v4.1+1)
   some (.inl (v8,v4.2)))else
  (Ew (GR,(cs,(v4.2.1,v6)))).bind fun v8=>
  (Adz true v8).bind fun v9=>
  bif v9 then(
   Option.map Sum.inr (
    some ((([]:List Int),([]:List Int)),false)))else
  let v10:Int:=((v4.2.1).length:Int)
  Pu.loop (fun(v11:(Int×Int))=>
   let v12:Bool:=decide (v11.1<v10)
   bif v12 then(
    (gin (v4.2.1).length v11.1).bind fun _=>
    (Ak 0 v4.2.1 v11.1).bind fun v14=>
    (gin (v8).length 0).bind fun _=>
    (Ak 0 v8 0).bind fun v16=>
    let v17:Bool:=decide (v14=v16)
    bif v17 then(
     let v18:Int:=wrap .i64 (v11.1+1)
     some (.inl (v18,v11.1)))else
    let v18:Int:=wrap .i64 (v11.1+1)
    some (.inl (v18,v11.2)))else
   Option.map Sum.inr (
    (Bs v8 1 ((v8).length:Int)).bind fun v13=>
    let v14:Int:=((v13).length:Int)
    Pu.loop (fun(v15:(Int×(Int×(List Int×List Int))))=>
     let v16:Bool:=decide (v15.2.1<v14)
     bif v16 then(
      (Ak 0 v13 v15.2.1).bind fun v17=>
      let v18:List Int:=[v17]
      (A3 8 v15.2.2.1 v18).bind fun v19=>
      let v20:List Int:=[v15.1]
      (A3 8 v15.2.2.2 v20).bind fun v21=>
      let v22:Int:=((v19).length:Int)
      let v23:Int:=wrap .i64 (v22 - 1)
      let v24:Int:=wrap .i64 (v15.2.1+1)
      some (.inl (v23,(v24,(v19,v21)))))else
     Option.map Sum.inr (
      let v17:Int:=wrap .i64 (v4.1+1)
      some (.inl (v17,v15.2.2)))) (v11.2,(0,v4.2)))) (0,0))else
 Option.map Sum.inr (
  some (v4.2,true))
def Ek (ns:List Int)(a:Int):Nat->Int
 | 0=>0
 | k+1=>if Am ns k=a then(k:Int)else Ek ns a k
theorem Zb (ns:List Int)(a:Int)(k:Nat):Ek ns a (k+1)=if Am ns k=a then(k:Int)else Ek ns a k:=rfl
def Yk (idx:Int)(L:Nat):Nat->List Int
 | 0=>[]
 | k+1=>Yk idx L k++[if k=0 then idx else(((L+k:Nat):Int) - 1)]
theorem S5 (idx:Int)(L k:Nat):(Yk idx L k).length=k:=by
 induction k with
 | zero=>rfl
 | succ k ih=>unfold Yk;simp[ih]
def Jx (N:Nat)(st:List Int×List Int):Prop:=st.1.Nodup/\(∀x∈st.1,0<=x/\x<(N:Int))/\st.2.length=st.1.length
theorem Jx.len {N:Nat}{st:List Int×List Int}(h:Jx N st):st.1.length<=N:=Xa N _ h.1 h.2.1
def GTo (G:List (List Int))(tgt:Int)(st st' :List Int×List Int):Prop:=
 (tgt∈st.1/\st' =st)\/∃a t,a∈st.1/\Chn G (a::t)/\(a::t).getLast? =some tgt/\t≠[]/\st' =(st.1++t,st.2++Yk (Ek st.1 a st.1.length) st.1.length t.length)
theorem Are {N:Nat}{G R:List (List Int)}{cs:List Int}(hG:Wz N G)(hR:Uh N G R)(hc:Zm N cs)(snks:List Int)(st:List Int×List Int)(hst:Jx N st)(hne:st.1≠[])(k:Nat)(hk:k<snks.length)(hkl:snks.length<=1048576):
 (At5 G cs snks ((k:Int),st)=some (.inr (([],[]),false))/\At6 (G,R) cs snks ((k:Int),st)=some (.inr (([],[]),false)))\/
 ∃st',Jx N st'∧st'.1≠[]/\GTo G (Am snks k) st st'∧At5 G cs snks ((k:Int),st)=some (.inl (((k+1:Nat):Int),st'))/\At6 (G,R) cs snks ((k:Int),st)=some (.inl (((k+1:Nat):Int),st')):=by
 obtain⟨ns,ps⟩:=st;have hlen:=hst.len;have hN:=hG.2.1;have hGl:=hG.1;obtain⟨hnd,hrg,hpl⟩:=hst;simp only at hnd hrg hpl hlen hne;obtain⟨D,d1,d2⟩:=Aq4 hG hc hrg (show ns.length<=1048576 by omega);obtain⟨E,d3,d4⟩:=Aq5 hG hR hc hrg (show ns.length<=1048576 by omega);have hu:=Aql hc d2 d4;subst hu;have hDl:=d2.1.1;unfold At5 At6
 try dsimp only
 rw[dt (show(k:Int)<(snks.length:Int)by omega),cond_true,cond_true,A0 hk];simp only[Aa];rw[O8 _ _ (by omega),Aeg hG hc d3 d2 hrg (by omega)];simp only[Aa];generalize Am snks k=tgt at*;by_cases g1:tgt<0
 ·left
  have hno:tgt∉ns:=fun q=>by have:=hrg _ q;omega
  rw[dt g1,df hno,if_neg (fun e=>by omega)];exact⟨rfl,rfl⟩
 rw[df g1,cond_false];by_cases g2:(G.length:Int)<=tgt
 ·left
  have hno:tgt∉ns:=fun q=>by have:=hrg _ q;omega
  rw[dt g2,df hno,if_neg (fun e=>by omega)];exact⟨rfl,rfl⟩
 rw[df g2,cond_false,Wq _ _ (by omega)];simp only[Aa];by_cases g3:tgt∈ns
 ·right
  rw[dt g3,cond_true,cond_true,Aj (by omega)];exact⟨(ns,ps),⟨hnd,hrg,hpl⟩,hne,Or.inl ⟨g3,rfl⟩,rfl,rfl⟩
 rw[df g3,cond_false,cond_false,d1];simp only[Aa];obtain⟨v,rfl⟩:∃v:Nat,tgt=(v:Int):=⟨tgt.toNat,by omega⟩;have hv:v<N:=by omega
 rw[As (by omega),A0 (show v<D.length by omega),Int.toNat_natCast];simp only[Aa];by_cases g4:Am D v<0
 ·left
  rw[dt g4,if_neg (fun e=>by omega)];exact⟨rfl,rfl⟩
 rw[df g4,cond_false,if_pos ⟨⟨by omega,by omega⟩,by omega⟩];obtain⟨a,t,e1,e2,e3,e4,e5,e6,e7,e8⟩:=Adh hG hc d2 hrg (by omega) hv (by omega);have htl:=Xa _ _ e3 e4;simp only[Ab]at htl
 right
 rw[e1];simp only[Aa];have enil:Adz true (a::t)=some false:=rfl;rw[enil];simp only[Aa,cond_false];have hgrow:Jx N (ns++t,ps++Yk (Ek ns a ns.length) ns.length t.length):=by
  refine⟨?_,fun x hx=> ?_,?_⟩
  ·simp only;rw[List.nodup_append];refine⟨hnd,(List.nodup_cons.1 e3).2,fun x hx y hy e=>e5 y hy (by rw[<-e];exact hx)⟩
  ·rcases List.mem_append.1 hx with q | q
   ·exact hrg x q
   ·exact e4 x (List.mem_cons_of_mem _ q)
  ·simp only[Ad,S5];omega
 have ga:Ak 0 (a::t) 0=some a:=Ar (show 0<(a::t).length by simp);have gi:gin (a::t).length 0=some ():=As (show 0<(a::t).length by simp);have stepIdx:∀j,j<ns.length->(bif decide ((j:Int)<(ns.length:Int))then(
  (gin (ns).length (j:Int)).bind fun _=>
  (Ak 0 ns (j:Int)).bind fun v24=>
  (gin (a::t).length 0).bind fun _=>
  (Ak 0 (a::t) 0).bind fun v26=>
  let v27:Bool:=decide (v24=v26)
  bif v27 then(
   let v28:Int:=wrap .i64 ((j:Int)+1)
   (some (.inl (v28,(j:Int))):Option ((Int×Int)⊕((Int×(List Int×List Int))⊕((List Int×List Int)×Bool)))))else
  let v28:Int:=wrap .i64 ((j:Int)+1)
  some (.inl (v28,Ek ns a j)))else none)=some (.inl (((j+1:Nat):Int),Ek ns a (j+1))):=by
  intro j hj;rw[dt (by omega),cond_true,As hj,A0 hj,gi,ga];simp only[Aa];rw[Aj (by omega),Zb];by_cases q:Am ns j=a
  ·rw[dt q,if_pos q];rfl
  ·rw[df q,if_neg q];rfl
 refine⟨_,hgrow,by simp[hne],Or.inr ⟨a,t,e6,e7,e8,fun e=>by subst e;rw[List.getLast?_singleton]at e8;exact g3 (Option.some.inj e8▸e6),rfl⟩,?_,?_⟩
 ·refine Ao ns.length (fun j=>((j:Int),Ek ns a j)) (fun j hj=> ?_) ?_
  ·have:=stepIdx j hj
   try dsimp only at this ⊢
   rw[dt (show(j:Int)<(ns.length:Int)by omega),cond_true]at this ⊢;exact this
  ·try dsimp only
   rw[df (by omega),cond_false];refine(Option.map_eq_some_iff).2 ⟨_,?_,rfl⟩;have est:(Ek ns a ns.length,((1:Int),(ns,ps)))=(fun j:Nat=>((if j=0 then Ek ns a ns.length else((ns.length+j:Nat):Int) - 1),((j:Int)+1,(ns++t.take j,ps++Yk (Ek ns a ns.length) ns.length j)))) 0:=by
    simp[Yk]
   rw[est];refine Ao t.length (fun j=>((if j=0 then Ek ns a ns.length else((ns.length+j:Nat):Int) - 1),((j:Int)+1,(ns++t.take j,ps++Yk (Ek ns a ns.length) ns.length j)))) (fun j hj=> ?_) ?_
   ·have ej:(j:Int)+1=((j+1:Nat):Int):=rfl;have l1:(ns++t.take j).length=ns.length+j:=by simp;omega
    have l2:=S5 (Ek ns a ns.length) ns.length j;have htj:Am (a::t) (j+1)=t[j]:=by unfold Am;simp[hj]
    try dsimp only
    rw[ej,dt (by simp only[Ab];omega),cond_true,As (by simp only[Ab];omega),A0 (show j+1<(a::t).length by simp only[Ab];omega),htj];simp only[Aa];rw[gapp_ok (by rw[l1];simp;omega)];simp only[Aa];rw[gapp_ok (by rw[Ad,l2];simp;omega)];simp only[Aa];have l3:((ns++t.take j++[t[j]]).length:Int)=((ns.length+(j+1):Nat):Int):=by rw[Ad,l1];simp;omega
    rw[l3,Aj (by omega),Aj (by omega),if_neg (show ¬j+1=0 by omega),List.append_assoc ns,<-Bu t j hj,List.append_assoc ps];rfl
   ·try dsimp only
    rw[df (by simp only[Ab];omega),cond_false,Aj (by omega),List.take_of_length_le (Nat.le_refl _)];rfl
 ·refine Ao ns.length (fun j=>((j:Int),Ek ns a j)) (fun j hj=> ?_) ?_
  ·have:=stepIdx j hj
   try dsimp only at this ⊢
   rw[dt (show(j:Int)<(ns.length:Int)by omega),cond_true]at this ⊢;exact this
  ·try dsimp only
   rw[df (by omega),cond_false];refine(Option.map_eq_some_iff).2 ⟨_,?_,rfl⟩;have esl:Bs (a::t) 1 ((a::t).length:Int)=some t:=by
    have:=M5 (xs:=a::t) (k:=1) (by simp);simpa using this
   rw[esl];simp only[Aa];have est:(Ek ns a ns.length,((0:Int),(ns,ps)))=(fun j:Nat=>((if j=0 then Ek ns a ns.length else((ns.length+j:Nat):Int) - 1),((j:Int),(ns++t.take j,ps++Yk (Ek ns a ns.length) ns.length j)))) 0:=by
    simp[Yk]
   rw[est];refine Ao t.length (fun j=>((if j=0 then Ek ns a ns.length else((ns.length+j:Nat):Int) - 1),((j:Int),(ns++t.take j,ps++Yk (Ek ns a ns.length) ns.length j)))) (fun j hj=> ?_) ?_
   ·have l1:(ns++t.take j).length=ns.length+j:=by simp;omega
    have l2:=S5 (Ek ns a ns.length) ns.length j
    try dsimp only
    rw[dt (show(j:Int)<(t.length:Int)by omega),cond_true,Ar hj];simp only[Aa];rw[gapp_ok (by rw[l1];simp;omega)];simp only[Aa];rw[gapp_ok (by rw[Ad,l2];simp;omega)];simp only[Aa];have l3:((ns++t.take j++[t[j]]).length:Int)=((ns.length+(j+1):Nat):Int):=by rw[Ad,l1];simp;omega
    rw[l3,Aj (by omega),Aj (by omega),if_neg (show ¬j+1=0 by omega),List.append_assoc ns,<-Bu t j hj,List.append_assoc ps];rfl
   ·try dsimp only
    rw[df (by omega),cond_false,Aj (by omega),List.take_of_length_le (Nat.le_refl _)];rfl
theorem Am1 {N:Nat}{G R:List (List Int)}{cs:List Int}(hG:Wz N G)(hR:Uh N G R)(hc:Zm N cs)(snks:List Int)(hkl:snks.length<=1048576)(I:Nat->List Int×List Int->Prop)(hI:∀k st st',k<snks.length->Jx N st->Jx N st'→I k st->GTo G (Am snks k) st st'→I (k+1) st'):∀(m k:Nat) (st:List Int×List Int),k+m=snks.length->Jx N st->st.1≠[]->
 ∃o,loop (At5 G cs snks) ((k:Int),st)=some o/\loop (At6 (G,R) cs snks) ((k:Int),st)=some o/\(Jx N o.1\/o=(([],[]),false))/\(I k st->o.2=true->Jx N o.1/\I snks.length o.1):=by
 intro m
 induction m with
 | zero=>
  intro k st hk hst hne;have hk:k=snks.length:=by omega
  subst hk;refine⟨(st,true),?_,?_,Or.inl hst,fun hi _=>⟨hst,hi⟩⟩
  ·rw[Cq];unfold At5;dsimp only;rw[df (show ¬(snks.length:Int)<(snks.length:Int)by omega)];rfl
  ·rw[Cq];unfold At6;dsimp only;rw[df (show ¬(snks.length:Int)<(snks.length:Int)by omega)];rfl
 | succ m ih=>
  intro k st hk hst hne;rcases Are hG hR hc snks st hst hne k (by omega) hkl with⟨h1,h2⟩ | ⟨st',g1,g2,g3,h1,h2⟩
  ·exact⟨_,by rw[Cq,h1],by rw[Cq,h2],Or.inr rfl,fun _ e=>by cases e⟩
  ·obtain⟨o,o1,o2,o3,o4⟩:=ih (k+1) st' (by omega) g1 g2;exact⟨o,by rw[Cq,h1];exact o1,by rw[Cq,h2];exact o2,o3,fun hi e=>o4 (hI k st st' (by omega) hst g1 hi g3) e⟩
end Go.Pf
/-
  Own work. Routing all connections, plainly: loads without one route, their bounds, shared costs.
-/
namespace Go.Pf
open Go Go.Pu
set_option linter.unusedVariables false
def ldF (N:Nat)(c:List Int)(rs:List Rt):List Int:=rs.foldl (fun c r=>cnT N r.1 c r.1.length) c
theorem At7 (N:Nat)(rs:List Rt):∀j,j<=rs.length->ldT N rs (-1) j=ldF N (List.replicate N 0) (rs.take j):=by
 intro j
 induction j with
 | zero=>intro _;rfl
 | succ j ih=>
  intro hj;unfold ldT;rw[if_neg (by omega),ih (by omega),An8 (show j<rs.length by omega),Bu rs j (by omega)];unfold ldF;rw[List.foldl_append];rfl
theorem At8 (N:Nat)(rs:List Rt){k:Nat}(hk:k<rs.length):∀j,j<=rs.length->ldT N rs (k:Int) j=ldF N (List.replicate N 0) (if j<=k then rs.take j else rs.take k++(rs.take j).drop (k+1)):=by
 intro j
 induction j with
 | zero=>intro _;rw[if_pos (by omega)];rfl
 | succ j ih=>
  intro hj;have ih:=ih (by omega);unfold ldT;by_cases c:j=k
  ·subst c;rw[if_pos (Nat.le_refl j)]at ih;rw[if_pos rfl,ih,if_neg (by omega),List.drop_of_length_le (by rw[List.length_take];omega),List.append_nil]
  ·rw[if_neg (by omega),ih,An8 (show j<rs.length by omega)];by_cases c2:j<k
   ·rw[if_pos (by omega),if_pos (by omega),Bu rs j (by omega)];unfold ldF;rw[List.foldl_append];rfl
   ·rw[if_neg (by omega),if_neg (by omega),Bu rs j (by omega),List.drop_append_of_le_length (by rw[List.length_take];omega),<-List.append_assoc];unfold ldF;rw[List.foldl_append (l:=_++_)];rfl
theorem Am2 (N:Nat)(rs:List Rt){k:Nat}(hk:k<rs.length):ldT N (rs.take k++rs.drop (k+1)) (-1) (rs.take k++rs.drop (k+1)).length=ldT N rs (k:Int) rs.length:=by
 rw[At7 N _ _ (Nat.le_refl _),At8 N rs hk _ (Nat.le_refl _),if_neg (by omega),List.take_length,List.take_length]
theorem Am3 {N:Nat}{ns c0:List Int}{M:Int}(hl:c0.length=N)(hM:0<=M/\M<=1000000)(h:∀x,x<N->0<=Am c0 x/\Am c0 x<=M):∀j,j<=ns.length->∀x,x<N->(0<=Am (cnT N ns c0 j) x/\Am (cnT N ns c0 j) x<=M+1)/\((x:Int)∉ns.take j->Am (cnT N ns c0 j) x=Am c0 x):=by
 intro j
 induction j with
 | zero=>intro _ x hx;have:=h x hx;exact⟨⟨this.1,by show Am c0 x<=_;omega⟩,fun _=>rfl⟩
 | succ j ih=>
  intro hj x hx;have ih:=ih (by omega);have hlen:=Wr N ns c0 j;unfold cnT;by_cases q:inN N (Am ns j)/\Am ns j∉ns.take j
  ·rw[if_pos q];have hy:(Am ns j).toNat<N:=by have:=q.1;unfold inN at this;omega
   have hyi:(((Am ns j).toNat:Nat):Int)=Am ns j:=by have:=q.1;unfold inN at this;omega
   obtain⟨i1,i2⟩:=ih _ hy;have i2:=i2 (by rw[hyi];exact q.2);have h0:=h _ hy;have e:(cnT N ns c0 j).getD (Am ns j).toNat 0=Am c0 (Am ns j).toNat:=i2;rw[e,Aj (by omega)];unfold A8;rw[C6 _ _ (by omega)];by_cases c:x=(Am ns j).toNat
   ·rw[if_pos c];refine⟨⟨by omega,by omega⟩,fun hn=>absurd ?_ hn⟩;rw[D3 (by omega),c,hyi];simp
   ·rw[if_neg c];obtain⟨j1,j2⟩:=ih x hx;refine⟨j1,fun hn=>j2 fun hm=>hn ?_⟩;rw[D3 (by omega)];exact List.mem_append_left _ hm
  ·rw[if_neg q];obtain⟨j1,j2⟩:=ih x hx;refine⟨j1,fun hn=>j2 fun hm=>hn ?_⟩;rw[D3 (by omega)];exact List.mem_append_left _ hm
theorem Ahh (N:Nat)(rs:List Rt)(skip:Int):∀k:Nat,k<=1000->∀x,x<N->0<=Am (ldT N rs skip k) x/\Am (ldT N rs skip k) x<=k:=by
 intro k
 induction k with
 | zero=>intro _ x hx;unfold ldT;rw[Sw N 0 hx];simp
 | succ k ih=>
  intro hk x hx;have ih:=ih (by omega);unfold ldT;split
  ·have:=ih x hx;omega
  ·have:=(Am3 (ns:=(rs.getD k ([],[])).1) (M:=(k:Int)) (Tz N rs skip k) (by omega) ih _ (Nat.le_refl _) x hx).1;omega
def sqV (cs ld:List Int)(p:Int)(i:Nat):Int:=
 if wrap .i64 (wrap .i64 (10+cs.getD i 0)+wrap .i64 (p*ld.getD i 0))<100000 then wrap .i64 (wrap .i64 (10+cs.getD i 0)+wrap .i64 (p*ld.getD i 0))else 100000
def sqT (cs ld:List Int)(p:Int)(n:Nat):List Int:=(List.range n).map (sqV cs ld p)
theorem Aki (cs ld:List Int)(p:Int)(n:Nat):sqT cs ld p (n+1)=sqT cs ld p n++[sqV cs ld p n]:=by
 unfold sqT;rw[List.range_succ,List.map_append];rfl
theorem Ahi (cs ld:List Int)(p:Int)(n:Nat):(sqT cs ld p n).length=n:=by simp[sqT]
theorem At9 (cs ld:List Int)(p:Int)(h:cs.length=ld.length)(hl:ld.length<=1048576):H2 (cs,(ld,p))=some (sqT cs ld p ld.length):=by
 unfold H2;dsimp only;refine Ao ld.length (fun k=>((k:Int),sqT cs ld p k)) (fun k hk=> ?_) ?_
 ·have hs:=Ahi cs ld p k;dsimp only;rw[dt (by omega),cond_true,Bq (xs:=cs) (by omega) (by omega),Bq (xs:=ld) (by omega) (by omega),Aki,Aj (z:=(k:Int)+1) (by omega)];simp only[Aa,Int.toNat_natCast];rw[gapp_ok (by simp;omega)];rfl
 ·dsimp only;rw[df (by omega),cond_false];rfl
theorem Aua (cs ld:List Int)(p:Int)(h:cs.length=ld.length)(hl:ld.length<=1048576):D9 (cs,(ld,p))=some (sqT cs ld p ld.length):=by
 unfold D9;dsimp only;refine Ao ld.length (fun k=>(sqT cs ld p k,(k:Int))) (fun k hk=> ?_) ?_
 ·have hs:=Ahi cs ld p k;dsimp only;rw[dt (by omega),cond_true,Bq (xs:=cs) (by omega) (by omega),Bq (xs:=ld) (by omega) (by omega),Aki,Aj (z:=(k:Int)+1) (by omega)];simp only[Aa,Int.toNat_natCast];rw[gapp_ok (by simp;omega)];rfl
 ·dsimp only;rw[df (by omega),cond_false];rfl
def Arf (N:Nat)(B:Int)(h:List Int):Prop:=h.length=N/\∀x,x<N->0<=Am h x/\Am h x<=B
theorem Azw {N:Nat}{h ld:List Int}{p:Int}(hh:Arf N 1000000 h)(hp:0<=p/\p<=1000)(hl:ld.length=N)(hld:∀x,x<N->0<=Am ld x/\Am ld x<=1000):Zm N (sqT h ld p N):=by
 refine⟨Ahi _ _ _ _,fun v hv=> ?_⟩;have h1:=hh.2 v hv;have h2:=hld v hv;have e:Am (sqT h ld p N) v=sqV h ld p v:=by
  unfold Am sqT;rw[List.getD,List.getElem?_map,List.getElem?_range hv];rfl
 rw[e];unfold sqV
 change 0<=h.getD v 0/\h.getD v 0<=_ at h1
 change 0<=ld.getD v 0/\ld.getD v 0<=_ at h2
 have h3:0<=p*ld.getD v 0:=Int.mul_nonneg hp.1 h2.1;have h4:p*ld.getD v 0<=1000*1000:=Int.mul_le_mul hp.2 h2.2 h2.1 (by omega);rw[Aj (z:=10+h.getD v 0) (by omega),Aj (z:=p*ld.getD v 0) (by omega),Aj (by omega)];split<;>omega
end Go.Pf
/-
  Own work. A grown route is a legal route.
-/
namespace Go.Pf
open Go Go.Pu
set_option linter.unusedVariables false
theorem Aub {d:Dev}{n x:Int}(h:x∈Hd d n):5<=Bn d x:=by
 have hr:=Ag4 h;have hd:=hr.1;have hT:=hd.2.2.1;have hp:=Dk hd;obtain⟨⟨ht0,ht1⟩,_,_⟩:=Ii hd hr.2.1 hr.2.2.1;unfold Hd at h;split at h
 rotate_left
 ·simp at h
 rcases O9.1 h with h | h
 ·simp at h
 unfold Zj at h;rcases List.mem_append.1 h with h | h
 ·unfold s0P at h;split at h
  ·have:x=A5 d n*per d+5\/x=A5 d n*per d+6:=by
    unfold Y7 at h;split at h<;>simp at h<;>omega
   unfold Bn;rcases this with e | e
   ·rw[e,Int.add_comm,Int.add_mul_emod_self_right,Int.emod_eq_of_lt (by omega) (by omega)];omega
   ·rw[e,Int.add_comm,Int.add_mul_emod_self_right,Int.emod_eq_of_lt (by omega) (by omega)];omega
  ·simp at h
 ·obtain⟨dir,q0,h⟩:=Gr.1 h;obtain⟨t2,q2,h⟩:=Gr.1 h;obtain⟨i2,h⟩:=J7 h;have:=(Jt hd q0 (by omega) h).2.2.1;omega
theorem Arg {d:Dev}{t k:Int}(h:0<=Ca d t k):Hc d (Ca d t k)/\(Bn d (Ca d t k)=5\/Bn d (Ca d t k)=6):=by
 have h0:=h;obtain⟨n1,n2,n3⟩:=S3 h;unfold Ca at h;split at h
 rotate_left
 ·omega
 rename_i q;have ho:=Wv (tk d t);obtain⟨hd,t0,t1,t2,q0,q1⟩:=Ace (d:=d) (t:=t) (ho.2.2 (by omega));have hp:=Dk hd;have e:Ca d t k=t*per d+(5+k):=by unfold Ca;rw[if_pos q];omega
 have ep:Bn d (Ca d t k)=5+k:=by unfold Bn;rw[e,Int.add_comm,Int.add_mul_emod_self_right,Int.emod_eq_of_lt (by omega) (by omega)]
 have et:A5 d (Ca d t k)=t:=by unfold A5;rw[e,Int.add_comm,Int.add_mul_ediv_right _ _ (by omega),Int.ediv_eq_zero_of_lt (by omega) (by omega)];omega
 refine⟨⟨hd,h0,n2,?_⟩,by omega⟩;rw[ep,et,if_neg (by omega),if_pos (by omega),<-t2];omega
theorem Ayy {d:Dev}{ps:List Int}{p:Pin}(h:0<=Fc d ps p):Hc d (Fc d ps p)/\(Bn d (Fc d ps p)=5\/Bn d (Fc d ps p)=6):=by
 unfold Fc at*;split at h
 ·rename_i q;rw[if_pos q];exact Arg h
 ·omega
theorem Ve {xs ys:List Int}{i:Nat}(h:i<xs.length):Am (xs++ys) i=Am xs i:=by
 unfold Am;rw[List.getD,List.getD,List.getElem?_append_left h]
theorem Ahj {xs ys:List Int}{n j:Nat}(h:xs.length=n):Am (xs++ys) (n+j)=Am ys j:=by
 unfold Am;rw[List.getD,List.getD,List.getElem?_append_right (by omega),show n+j - xs.length=j by omega]
theorem Aad {xs:List Int}{i:Nat}(h:i<xs.length):Am xs i∈xs:=by rw[<-Dm h];exact List.getElem_mem h
theorem Ao2 (idx:Int)(L:Nat):∀n j,j<n->Am (Yk idx L n) j=if j=0 then idx else((L+j:Nat):Int) - 1
 | 0,j,h=>by omega
 | n+1,j,h=>by
  unfold Yk;by_cases c:j<n
  ·rw[Ve (by rw[S5];exact c)];exact Ao2 idx L n j c
  ·have e:j=n+0:=by omega
   rw[e,Ahj (S5 idx L n)];rfl
theorem Yl (ns:List Int)(a:Int):∀k,k<=ns.length->a∈ns.take k->∃i:Nat,i<k/\Ek ns a k=(i:Int)/\Am ns i=a
 | 0,_,h=>by simp at h
 | k+1,hk,h=>by
  rw[Zb];by_cases c:Am ns k=a
  ·rw[if_pos c];exact⟨k,by omega,rfl,c⟩
  ·rw[if_neg c];rw[D3 (by omega)]at h;rcases List.mem_append.1 h with q | q
   ·obtain⟨i,i1,i2,i3⟩:=Yl ns a k (by omega) q;exact⟨i,by omega,i2,i3⟩
   ·exact absurd (List.mem_singleton.1 q).symm c
theorem Auc {ns:List Int}(h:ns.Nodup){k:Nat}(hk:k<ns.length):Am ns k∉ns.take k:=by
 intro hm;obtain⟨j,hj,e⟩:=List.getElem_of_mem hm;rw[List.length_take]at hj;rw[List.getElem_take,<-Dm hk]at e;have:=(List.getElem_inj h).1 e;omega
def GL (d:Dev)(src:Int)(snks:List Int)(k:Nat)(st:List Int×List Int):Prop:=
 st.1≠[]/\Am st.1 0=src/\Am st.2 0=0/\(∀i,1<=i->i<st.1.length->(0<=Am st.2 i/\Am st.2 i<(i:Int))/\pAt st.1 (Am st.2 i)∈Hd d (Am st.1 i)/\(Bn d (Am st.1 i)<5->Am st.1 i∈snks))/\∀j,j<k->Am snks j∈st.1
theorem Aud (d:Dev)(src:Int)(snks:List Int):GL d src snks 0 ([src],[0]):=⟨by simp,rfl,rfl,fun i h1 h2=>by simp at h2;omega,fun j hj=>by omega⟩
theorem Awp {d:Dev}{src:Int}{snks:List Int}{k:Nat}{st st' :List Int×List Int}(hk:k<snks.length)(h1:Jx (Aq d).toNat st)(h2:Jx (Aq d).toNat st')(h:GL d src snks k st)(hg:GTo (dG d) (Am snks k) st st'):GL d src snks (k+1) st' :=by
 obtain⟨g1,g2,g3,g4,g5⟩:=h;rcases hg with⟨hm,rfl⟩ | ⟨a,t,ha,hc,hl,hne,rfl⟩
 ·refine⟨g1,g2,g3,g4,fun j hj=> ?_⟩;by_cases e:j=k
  ·rw[e];exact hm
  ·exact g5 j (by omega)
 obtain⟨ns,ps⟩:=st;have hlen:=h1.2.2;have hrg:=h2.2.1;simp only at ha g1 g2 g3 g4 g5 hlen hrg ⊢;have hL:0<ns.length:=List.length_pos_iff.2 g1;have ht:0<t.length:=List.length_pos_iff.2 hne;have hlast:Am t (t.length - 1)=Am snks k:=by
  rw[List.getLast?_eq_getElem?]at hl;have e:(a::t)[(a::t).length - 1]? =t[t.length - 1]? :=by
   rw[show(a::t).length - 1=(t.length - 1)+1 by simp only[Ab];omega,List.getElem?_cons_succ]
  rw[e]at hl;unfold Am;rw[List.getD,hl];rfl
 have hch:∀j,j<t.length->Am (a::t) j∈Hd d (Am t j):=fun j hj=>by
  have e:=Chn.at (a::t) j hc (by simp only[Ab];omega);have e2:Am (a::t) (j+1)=Am t j:=rfl;rw[e2]at e;have hr:=hrg (Am t j) (List.mem_append_right _ (Aad hj));rw[Aoy d (by omega)]at e;rw[show(((Am t j).toNat:Nat):Int)=Am t j by omega]at e;exact e
 refine⟨by simp[g1],?_,?_,fun i hi1 hi2=> ?_,fun j hj=> ?_⟩
 ·rw[Ve hL];exact g2
 ·rw[Ve (by omega)];exact g3
 ·by_cases c:i<ns.length
  ·obtain⟨q1,q2,q3⟩:=g4 i hi1 c;rw[Ve c,Ve (by omega)];refine⟨q1,?_,q3⟩;have e:pAt (ns++t) (Am ps i)=pAt ns (Am ps i):=Ve (by omega);rw[e];exact q2
  ·obtain⟨j,rfl⟩:∃j,i=ns.length+j:=⟨i - ns.length,by omega⟩;have hj:j<t.length:=by rw[Ad]at hi2;omega
   rw[Ahj rfl,Ahj hlen,Ao2 _ _ _ _ hj];have hcj:=hch j hj;refine⟨?_,?_,fun h5=> ?_⟩
   ·by_cases c0:j=0
    ·rw[if_pos c0];obtain⟨i0,q1,q2,q3⟩:=Yl ns a ns.length (Nat.le_refl _) (by rw[List.take_length];exact ha);rw[q2];omega
    ·rw[if_neg c0];omega
   ·by_cases c0:j=0
    ·subst c0;rw[if_pos rfl];obtain⟨i0,q1,q2,q3⟩:=Yl ns a ns.length (Nat.le_refl _) (by rw[List.take_length];exact ha);have e:pAt (ns++t) (Ek ns a ns.length)=a:=by
      rw[q2,<-q3];exact Ve q1
     rw[e];exact hcj
    ·rw[if_neg c0];have e:pAt (ns++t) (((ns.length+j:Nat):Int) - 1)=Am (a::t) j:=by
      unfold pAt;rw[show(((ns.length+j:Nat):Int) - 1).toNat=ns.length+(j - 1)by omega];have:=Ahj (xs:=ns) (ys:=t) (j:=j - 1) rfl;unfold Am at this ⊢;rw[this];obtain⟨j',rfl⟩:∃j',j=j' +1:=⟨j - 1,by omega⟩;rfl
     rw[e];exact hcj
   ·by_cases c1:j+1<t.length
    ·have:=Aub (hch (j+1) c1);have e:Am (a::t) (j+1)=Am t j:=rfl;rw[e]at this;omega
    ·rw[show j=t.length - 1 by omega,hlast];exact Aad hk
 ·by_cases e:j=k
  ·rw[e,<-hlast];exact List.mem_append_right _ (Aad (by omega))
  ·exact List.mem_append_left _ (g5 j (by omega))
theorem Azx {d:Dev}{src:Int}{snks:List Int}{st:List Int×List Int}(hr:Hc d src)(hp:Bn d src=5\/Bn d src=6)(h1:Jx (Aq d).toNat st)(h:GL d src snks snks.length st):roP d src snks st.1 st.2=true:=by
 obtain⟨ns,ps⟩:=st;obtain⟨g1,g2,g3,g4,g5⟩:=h;have hlen:=h1.len;obtain⟨hnd,hrg,hpl⟩:=h1;simp only at g1 g2 g3 g4 g5 hlen hnd hrg hpl ⊢;have hL:0<ns.length:=List.length_pos_iff.2 g1;have hd:=hr.1;have hn:=Bo hd;unfold roP;rw[if_pos ⟨⟨by omega,by unfold rnN;rw[if_pos hd];omega⟩,hpl⟩,if_pos (List.all_eq_true.2 fun k hk=>decide_eq_true ?_)]
 ·unfold Axg;rw[List.all_eq_true];intro s hs;obtain⟨j,hj,rfl⟩:=Ib hs;exact decide_eq_true (g5 j hj)
 ·have hk:=List.mem_range.1 hk;by_cases k0:k=0
  ·subst k0;refine⟨by rw[g2];exact hr,by simp,?_⟩;rw[if_pos rfl];exact⟨g2,g3,by rw[g2];exact hp⟩
  ·obtain⟨q1,q2,q3⟩:=g4 k (by omega) hk;refine⟨Ag4 q2,Auc hnd hk,?_⟩;rw[if_neg k0];exact⟨q1,q2,q3⟩
end Go.Pf
/-
  Own work. Routing all connections, plainly: one round over the connections.
-/
namespace Go.Pf
open Go Go.Pu
set_option linter.unusedVariables false
abbrev RO:=(Int×(List Int×List Rt))⊕(List Rt×Bool)
abbrev SO:=(Int×(List Rt×List Int))⊕(List Rt×Bool)
noncomputable def rkI (v16:Int)(srcs:List Int)(snks:List (List Int))(hist:List Int)(i:Int)(GR:List (List Int)×List (List Int))(K:List Rt->Option RO):(Int×List Rt)->Option ((Int×List Rt)⊕RO):=(fun(v17:(Int×List (List Int×List Int)))=>
 let v18:Bool:=decide (v17.1<v16)
 bif v18 then(
  (Bs v17.2 0 v17.1).bind fun v19=>
  let v20:Int:=wrap .i64 (v17.1+1)
  (Bs v17.2 v20 ((v17.2).length:Int)).bind fun v21=>
  (A3 48 ([]:List (List Int×List Int)) v19).bind fun v22=>
  (A3 48 v22 v21).bind fun v23=>
  let v24:Int:=((hist).length:Int)
  let v25:Int:=wrap .i64 (5*i)
  (gin (srcs).length v17.1).bind fun _=>
  (Ak 0 srcs v17.1).bind fun v27=>
  (gin (snks).length v17.1).bind fun _=>
  (Ak [] snks v17.1).bind fun v29=>
  (E9 (v24,v23)).bind fun v30=>
  (D9 (hist,(v30,v25))).bind fun v31=>
  (Jh (GR,(v31,(v27,v29)))).bind fun v32=>
  let v33:Bool:= !v32.2
  bif v33 then(
   Option.map Sum.inr (
    Option.map Sum.inr (
     some (([]:List (List Int×List Int)),false))))else
  (gin (v17.2).length v17.1).bind fun _=>
  (Ak ([],[]) v17.2 v17.1).bind fun v35=>
  let v36:(List Int×List Int):=v32.1
  let v37:List (List Int×List Int):=A8 v17.2 v17.1 v36
  let v38:Int:=wrap .i64 (v17.1+1)
  some (.inl (v38,v37)))else
 Option.map Sum.inr (K v17.2))
noncomputable def rkS (d:Dev)(ps:List Int)(cs:List B7)(hist:List Int)(i:Int)(G:List (List Int))(K:List Rt->Option SO):(Int×List Rt)->Option ((Int×List Rt)⊕SO):=(fun(v16:(Int×List (List Int×List Int)))=>
 let v17:Int:=((cs).length:Int)
 let v18:Bool:=decide (v16.1<v17)
 bif v18 then(
  let v19:Int:=((G).length:Int)
  (Dy (v19,(v16.2,v16.1))).bind fun v20=>
  let v21:Int:=wrap .i64 (5*i)
  (H2 (hist,(v20,v21))).bind fun v22=>
  (Ak (0,((0,0),[])) cs v16.1).bind fun v23=>
  (Ak (0,((0,0),[])) cs v16.1).bind fun v24=>
  (Dp (d,(ps,v23))).bind fun v25=>
  (Eh (d,(ps,v24))).bind fun v26=>
  (Qf (G,(v22,(v25,v26)))).bind fun v27=>
  let v28:Bool:= !v27.2
  bif v28 then(
   Option.map Sum.inr (
    Option.map Sum.inr (
     some (([]:List (List Int×List Int)),false))))else
  (gin (v16.2).length v16.1).bind fun _=>
  (Ak ([],[]) v16.2 v16.1).bind fun v30=>
  let v31:(List Int×List Int):=v27.1
  let v32:List (List Int×List Int):=A8 v16.2 v16.1 v31
  let v33:Int:=wrap .i64 (v16.1+1)
  some (.inl (v33,v32)))else
 Option.map Sum.inr (K v16.2))
def Afs (n:Nat)(rs:List Rt):Prop:=rs.length=n/\∀r∈rs,r.1.length<=828/\r.2.length<=828
theorem Afs.ok {n:Nat}(hn:n<=1000){rs:List Rt}(h:Afs n rs):Ajm rs:=⟨by rw[h.1];omega,fun r hr=>by have:=h.2 r hr;exact⟨by omega,by omega⟩⟩
theorem Xb {σ ω:Type}{f:σ->Option (σ⊕ω)}{s:σ}{X:Option ω}(h:f s=Option.map Sum.inr X):loop f s=X:=by
 rw[Cq,h];cases X<;>rfl
theorem Md {σ ω:Type}{f:σ->Option (σ⊕ω)}{s s' :σ}(h:f s=some (.inl s')):loop f s=loop f s' :=by rw[Cq,h]
theorem Me {σ ω:Type}{f:σ->Option (σ⊕ω)}{s:σ}{o:ω}(h:f s=some (.inr o)):loop f s=some o:=by rw[Cq,h]
theorem Aft {d:Dev}{ps:List Int}{p:Pin}(h:0<=Fc d ps p):Fc d ps p<Aq d:=by
 unfold Fc at h ⊢;split at h
 ·rename_i q;rw[if_pos q];exact(S3 h).2.1
 ·omega
def D4 (cs:List B7)(k:Nat):B7:=cs.getD k (0,((0,0),[]))
theorem Vf {cs:List B7}{k:Nat}(h:k<cs.length):Ak ((0,((0,0),[])):B7) cs (k:Int)=some (D4 cs k)/\D4 cs k∈cs:=by
 have e:D4 cs k=cs[k]:=by unfold D4;rw[List.getD,List.getElem?_eq_getElem h];rfl
 rw[e];exact⟨Ar h,List.getElem_mem h⟩
def Ol (d:Dev)(ps:List Int)(cs:List B7):List Int:=cs.map fun c=>Fc d ps c.2.1
def Om (d:Dev)(ps:List Int)(cs:List B7):List (List Int):=cs.map fun c=>E2 d ps c.2.2
theorem Awq (d:Dev)(ps:List Int){cs:List B7}{k:Nat}(h:k<cs.length):Ak 0 (Ol d ps cs) (k:Int)=some (Fc d ps (D4 cs k).2.1):=by
 have e:D4 cs k=cs[k]:=by unfold D4;rw[List.getD,List.getElem?_eq_getElem h];rfl
 rw[Ar (by unfold Ol;rw[Ae];exact h),e];simp[Ol]
theorem Awr (d:Dev)(ps:List Int){cs:List B7}{k:Nat}(h:k<cs.length):Ak [] (Om d ps cs) (k:Int)=some (E2 d ps (D4 cs k).2.2):=by
 have e:D4 cs k=cs[k]:=by unfold D4;rw[List.getD,List.getElem?_eq_getElem h];rfl
 rw[Ar (by unfold Om;rw[Ae];exact h),e];simp[Om]
theorem Akj {xs:List Rt}{k:Nat}(h:k<=xs.length):Bs xs 0 (k:Int)=some (xs.take k):=by
 unfold Bs;rw[if_pos ⟨by omega,by omega,by omega⟩];simp
theorem Akk {xs:List Rt}{k:Nat}(h:k<=xs.length):Bs xs (k:Int) (xs.length:Int)=some (xs.drop k):=by
 unfold Bs;rw[if_pos ⟨by omega,by omega,by omega⟩];simp
theorem Ao3 {xs ys:List Rt}(h:xs.length+ys.length<=1000000000):A3 48 xs ys=some (xs++ys):=Br (by omega) (by omega)
def LG (d:Dev)(ps:List Int)(cs:List B7)(k:Nat)(r:Rt):Prop:=roP d (Fc d ps (D4 cs k).2.1) (E2 d ps (D4 cs k).2.2) r.1 r.2=true
theorem Ao4 {d:Dev}{ps:List Int}{cs:List B7}(hd:DOk d)(hp:PsR ps)(hpl:ps.length<=1048576)(hcs:cs.length<=100)(hcl:∀c∈cs,c.2.2.length<=1048576){R:List (List Int)}(hR:Uh (Aq d).toNat (dG d) R)
 (hsrc:∀c∈cs,0<=Fc d ps c.2.1) {hist:List Int} (hh:Arf (Aq d).toNat 1000000 hist) {i:Int} (hi:1<=i/\i<=12) (KI:List Rt->Option RO) (KS:List Rt->Option SO):
 ∀(m k:Nat) (rs:List Rt),k+m=cs.length->Afs cs.length rs->
  (loop (rkI (cs.length:Int) (Ol d ps cs) (Om d ps cs) hist i (dG d,R) KI) ((k:Int),rs)=some (.inr ([],false))/\loop (rkS d ps cs hist i (dG d) KS) ((k:Int),rs)=some (.inr ([],false)))\/
  ∃rs',Afs cs.length rs'∧((∀j,j<k->LG d ps cs j (rs.getD j ([],[])))->∀j,j<cs.length->LG d ps cs j (rs'.getD j ([],[])))/\loop (rkI (cs.length:Int) (Ol d ps cs) (Om d ps cs) hist i (dG d,R) KI) ((k:Int),rs)=KI rs'∧loop (rkS d ps cs hist i (dG d) KS) ((k:Int),rs)=KS rs'
 | 0,k,rs,hm,hrs=>by
  have e:k=cs.length:=by omega
  subst e
  right
  refine⟨rs,hrs,fun h=>h,Xb ?_,Xb ?_⟩
  ·unfold rkI
   try dsimp only
   rw[df (by omega),cond_false]
  ·unfold rkS
   try dsimp only
   rw[df (by omega),cond_false]
 | m+1,k,rs,hm,hrs=>by
  have hk:k<cs.length:=by omega
  have hkr:k<rs.length:=by rw[hrs.1];exact hk
  obtain⟨g1,g2⟩:=Vf hk;have hn:=Bo hd;have hN:((Aq d).toNat:Int)=Aq d:=by omega
  have hG:=Afq hd;have hGl:((dG d).length:Int)=((Aq d).toNat:Int):=by rw[hG.1]
  have hs0:=hsrc _ g2;have hs1:=Aft hs0;have hsl:=Ach d ps (D4 cs k).2.2;have hcc:=hcl _ g2;have hrl:rs.length<=100:=by rw[hrs.1];exact hcs
  have hld:=Ahh (Aq d).toNat rs (k:Int) rs.length (by omega);have hll:=Tz (Aq d).toNat rs (k:Int) rs.length;have hcst:=Azw (p:=5*i) hh (by omega) hll (fun x hx=>by have:=hld x hx;omega);have hst:Jx (Aq d).toNat ([Fc d ps (D4 cs k).2.1],[0]):=⟨by simp,fun x hx=>by have hx:=List.mem_singleton.1 hx;omega,rfl⟩;obtain⟨o,o1,o2,o3,o4⟩:=Am1 hG hR hcst (E2 d ps (D4 cs k).2.2) (by omega) (GL d (Fc d ps (D4 cs k).2.1) (E2 d ps (D4 cs k).2.2)) (fun k st st' a b c e f=>Awp a b c e f) (E2 d ps (D4 cs k).2.2).length 0 ([Fc d ps (D4 cs k).2.1],[0]) (by omega) hst (by simp);have e1:Qf (dG d,(sqT hist (ldT (Aq d).toNat rs (k:Int) rs.length) (5*i) (Aq d).toNat,(Fc d ps (D4 cs k).2.1,E2 d ps (D4 cs k).2.2)))=some o:=o1;have e2:Jh ((dG d,R),(sqT hist (ldT (Aq d).toNat rs (k:Int) rs.length) (5*i) (Aq d).toNat,(Fc d ps (D4 cs k).2.1,E2 d ps (D4 cs k).2.2)))=some o:=o2;have hus:E9 ((hist.length:Int),rs.take k++rs.drop (k+1))=some (ldT (Aq d).toNat rs (k:Int) rs.length):=by
   rw[hh.1,Ab9 _ _ (by omega),Am2 _ rs hkr];have hok:=hrs.ok (by omega);refine⟨by rw[Ad,List.length_take,List.length_drop];omega,fun r hr=> ?_⟩;rcases List.mem_append.1 hr with q | q
   ·exact hok.2 r (List.mem_of_mem_take q)
   ·exact hok.2 r (List.mem_of_mem_drop q)
  have hlo:Dy (((dG d).length:Int),(rs,(k:Int)))=some (ldT (Aq d).toNat rs (k:Int) rs.length):=by
   rw[hGl];exact Afb _ rs _ (by omega) (hrs.ok (by omega))
  have hci:D9 (hist,(ldT (Aq d).toNat rs (k:Int) rs.length,5*i))=some (sqT hist (ldT (Aq d).toNat rs (k:Int) rs.length) (5*i) (Aq d).toNat):=by
   rw[Aua _ _ _ (by rw[hh.1,hll]) (by rw[hll];omega),hll]
  have hcs' :H2 (hist,(ldT (Aq d).toNat rs (k:Int) rs.length,5*i))=some (sqT hist (ldT (Aq d).toNat rs (k:Int) rs.length) (5*i) (Aq d).toNat):=by
   rw[At9 _ _ _ (by rw[hh.1,hll]) (by rw[hll];omega),hll]
  have fI:∀(b:Bool),o.2=b->rkI (cs.length:Int) (Ol d ps cs) (Om d ps cs) hist i (dG d,R) KI ((k:Int),rs)=some (if b then .inl (((k+1:Nat):Int),rs.set k o.1)else .inr (.inr ([],false))):=fun b hb=>by
   unfold rkI
   try dsimp only
   rw[dt (show(k:Int)<(cs.length:Int)by omega),cond_true,Akj (by omega),Aj (z:=(k:Int)+1) (by omega)];simp only[Aa];rw[show(k:Int)+1=((k+1:Nat):Int)from rfl,Akk (by omega)];simp only[Aa];rw[Ao3 (by simp;omega)];simp only[Aa,List.nil_append];rw[Ao3 (by rw[List.length_take,List.length_drop];omega),Aj (z:=5*i) (by omega)];simp only[Aa];rw[As (show k<(Ol d ps cs).length by unfold Ol;rw[Ae];exact hk),Awq d ps hk,As (show k<(Om d ps cs).length by unfold Om;rw[Ae];exact hk),Awr d ps hk];simp only[Aa];rw[hus];simp only[Aa];rw[hci];simp only[Aa];rw[e2];simp only[Aa];rw[hb];cases b with
   | false=>rfl
   | true=>
    rw[Bool.not_true,cond_false,As hkr,Ar hkr];simp only[Aa];rw[B8];rfl
  have fS:∀(b:Bool),o.2=b->rkS d ps cs hist i (dG d) KS ((k:Int),rs)=some (if b then .inl (((k+1:Nat):Int),rs.set k o.1)else .inr (.inr ([],false))):=fun b hb=>by
   unfold rkS
   try dsimp only
   rw[dt (show(k:Int)<(cs.length:Int)by omega),cond_true,hlo];simp only[Aa];rw[Aj (z:=5*i) (by omega),hcs'];simp only[Aa];rw[g1];simp only[Aa];rw[Ss d ps _ hp,Pb d ps _ hp hcc];simp only[Aa];rw[e1];simp only[Aa];rw[hb];cases b with
   | false=>rfl
   | true=>
    rw[Bool.not_true,cond_false,As hkr,Ar hkr];simp only[Aa];rw[B8,Aj (by omega)];rfl
  cases hb:o.2 with
  | false=>
   left
   exact⟨Me (fI false hb),Me (fS false hb)⟩
  | true=>
   have hrs' :Afs cs.length (rs.set k o.1):=by
    refine⟨by rw[List.length_set];exact hrs.1,fun r hr=> ?_⟩;rcases List.mem_or_eq_of_mem_set hr with q | q
    ·exact hrs.2 r q
    ·subst q;rcases o3 with o3 | o3
     ·have:=o3.len;have:=o3.2.2;omega
     ·rw[o3];simp
   have hI:=fI true hb;have hS:=fS true hb;rw[if_pos rfl]at hI hS;have hlg:LG d ps cs k o.1:=by
    obtain⟨p1,p2⟩:=o4 (Aud _ _ _) hb;have hsr:=Ayy hs0;exact Azx hsr.1 hsr.2 p1 p2
   rcases Ao4 hd hp hpl hcs hcl hR hsrc hh hi KI KS m (k+1) (rs.set k o.1) (by omega) hrs' with⟨q1,q2⟩ | ⟨rs',q0,q3,q1,q2⟩
   ·left
    exact⟨(Md hI).trans q1,(Md hS).trans q2⟩
   ·right
    refine⟨rs',q0,fun hj=>q3 fun j hj2=> ?_,(Md hI).trans q1,(Md hS).trans q2⟩;by_cases e:j=k
    ·subst e;rw[List.getD_eq_getElem?_getD,List.getElem?_set_self hkr];exact hlg
    ·rw[List.getD_eq_getElem?_getD,List.getElem?_set_ne (by omega),<-List.getD_eq_getElem?_getD];exact hj j (by omega)
end Go.Pf
/-
  Own work. Routing all connections, plainly: the rounds.
-/
namespace Go.Pf
open Go Go.Pu
set_option linter.unusedVariables false
abbrev XS:=Bool×(Int×List Int)
noncomputable def xbI (u:List Int)(i:Int)(rs:List Rt):XS->Option (XS⊕RO):=(fun(v22:(Bool×(Int×List Int)))=>
 let v21:Int:=((u).length:Int)
 let v23:Bool:=decide (v22.2.1<v21)
 bif v23 then(
  (gin (u).length v22.2.1).bind fun _=>
  (Ak 0 u v22.2.1).bind fun v25=>
  let v26:Bool:=decide (1<v25)
  bif v26 then(
   (gin (v22.2.2).length v22.2.1).bind fun _=>
   (Ak 0 v22.2.2 v22.2.1).bind fun v28=>
   let v29:Int:=wrap .i64 (v25 - 1)
   let v30:Int:=wrap .i64 (4*v29)
   let v31:Int:=wrap .i64 (v28+v30)
   (gin (v22.2.2).length v22.2.1).bind fun _=>
   (Ak 0 v22.2.2 v22.2.1).bind fun v33=>
   let v34:Int:=v31
   let v35:List Int:=A8 v22.2.2 v22.2.1 v34
   let v36:Int:=wrap .i64 (v22.2.1+1)
   some (.inl (true,(v36,v35))))else
  let v27:Int:=wrap .i64 (v22.2.1+1)
  some (.inl (v22.1,(v27,v22.2.2))))else
 Option.map Sum.inr (
  let v24:Bool:= !v22.1
  bif v24 then(
   Option.map Sum.inr (
    some (rs,true)))else
  let v25:Int:=wrap .i64 (i+1)
  some (.inl (v25,(v22.2.2,rs)))))
noncomputable def xbS (u:List Int)(i:Int)(rs:List Rt):XS->Option (XS⊕SO):=(fun(v21:(Bool×(Int×List Int)))=>
 let v22:Int:=((u).length:Int)
 let v23:Bool:=decide (v21.2.1<v22)
 bif v23 then(
  (gin (u).length v21.2.1).bind fun _=>
  (Ak 0 u v21.2.1).bind fun v25=>
  let v26:Bool:=decide (1<v25)
  bif v26 then(
   (gin (v21.2.2).length v21.2.1).bind fun _=>
   (Ak 0 v21.2.2 v21.2.1).bind fun v28=>
   (gin (u).length v21.2.1).bind fun _=>
   (Ak 0 u v21.2.1).bind fun v30=>
   let v31:Int:=wrap .i64 (v30 - 1)
   let v32:Int:=wrap .i64 (4*v31)
   let v33:Int:=wrap .i64 (v28+v32)
   (gin (v21.2.2).length v21.2.1).bind fun _=>
   (Ak 0 v21.2.2 v21.2.1).bind fun v35=>
   let v36:Int:=v33
   let v37:List Int:=A8 v21.2.2 v21.2.1 v36
   let v38:Int:=wrap .i64 (v21.2.1+1)
   some (.inl (true,(v38,v37))))else
  let v27:Int:=wrap .i64 (v21.2.1+1)
  some (.inl (v21.1,(v27,v21.2.2))))else
 Option.map Sum.inr (
  let v24:Bool:= !v21.1
  bif v24 then(
   Option.map Sum.inr (
    some (rs,true)))else
  let v25:Int:=wrap .i64 (i+1)
  some (.inl (v25,(rs,v21.2.2)))))
def xrT (u h:List Int):Nat->Bool×List Int
 | 0=>(false,h)
 | n+1=>if 1<u.getD n 0 then(true,(xrT u h n).2.set n (wrap .i64 ((xrT u h n).2.getD n 0+wrap .i64 (4*wrap .i64 (u.getD n 0 - 1)))))else xrT u h n
theorem S6 (u h:List Int)(n:Nat):xrT u h (n+1)=if 1<u.getD n 0 then(true,(xrT u h n).2.set n (wrap .i64 ((xrT u h n).2.getD n 0+wrap .i64 (4*wrap .i64 (u.getD n 0 - 1)))))else xrT u h n:=rfl
theorem Xc (u h:List Int):∀n,(xrT u h n).2.length=h.length
 | 0=>rfl
 | n+1=>by
  have:=Xc u h n;rw[S6];split
  ·rw[List.length_set];exact this
  ·exact this
theorem Azy {N:Nat}{u h:List Int}{B:Int}(hu:∀x,x<N->0<=Am u x/\Am u x<=100)(hh:Arf N B h)(hB:0<=B/\B<=100000):∀n,n<=N->∀x,x<N->(0<=Am (xrT u h n).2 x/\Am (xrT u h n).2 x<=B+400)/\(n<=x->Am (xrT u h n).2 x=Am h x):=by
 intro n
 induction n with
 | zero=>intro _ x hx;have:=hh.2 x hx;exact⟨⟨this.1,by show Am h x<=_;omega⟩,fun _=>rfl⟩
 | succ n ih=>
  intro hn x hx;have ih:=ih (by omega);have hl:(xrT u h n).2.length=N:=(Xc u h n).trans hh.1;rw[S6];have hu0:=hu n (by omega)
  change 0<=u.getD n 0/\u.getD n 0<=100 at hu0
  by_cases c:1<u.getD n 0
  ·rw[if_pos c];have e:(xrT u h n).2.getD n 0=Am h n:=(ih n (by omega)).2 (Nat.le_refl _);have h0:=hh.2 n (by omega);rw[e,Aj (z:=u.getD n 0 - 1) (by omega),Aj (z:=4*(u.getD n 0 - 1)) (by omega),Aj (by omega)];simp only;rw[C6 _ _ (by omega)];by_cases q:x=n
   ·rw[if_pos q];exact⟨⟨by omega,by omega⟩,fun _=>by omega⟩
   ·rw[if_neg q];obtain⟨j1,j2⟩:=ih x hx;exact⟨j1,fun _=>j2 (by omega)⟩
  ·rw[if_neg c];obtain⟨j1,j2⟩:=ih x hx;exact⟨j1,fun _=>j2 (by omega)⟩
theorem Aws (u h:List Int)(i:Int)(rs:List Rt)(hl:h.length=u.length)(hb:u.length<=1048576):loop (xbI u i rs) (false,(0,h))=some (if(xrT u h u.length).1 then .inl (wrap .i64 (i+1),((xrT u h u.length).2,rs))else .inr (rs,true)):=by
 refine Ao u.length (fun k=>((xrT u h k).1,((k:Int),(xrT u h k).2))) (fun k hk=> ?_) ?_
 ·have hln:=Xc u h k;have hk2:k<(xrT u h k).2.length:=by omega
  unfold xbI
  try dsimp only
  rw[dt (by omega),cond_true,As hk,Bq (xs:=u) (by omega) (by omega)];simp only[Aa,Int.toNat_natCast];rw[S6];by_cases c:1<u.getD k 0
  ·rw[dt c,cond_true,if_pos c,As hk2,Bq (xs:=(xrT u h k).2) (by omega) (by omega)];simp only[Aa,Int.toNat_natCast];rw[B8,Aj (z:=(k:Int)+1) (by omega)];rfl
  ·rw[df c,cond_false,if_neg c,Aj (z:=(k:Int)+1) (by omega)];rfl
 ·unfold xbI
  try dsimp only
  rw[df (by omega),cond_false];cases (xrT u h u.length).1<;>rfl
theorem Awt (u h:List Int)(i:Int)(rs:List Rt)(hl:h.length=u.length)(hb:u.length<=1048576):loop (xbS u i rs) (false,(0,h))=some (if(xrT u h u.length).1 then .inl (wrap .i64 (i+1),(rs,(xrT u h u.length).2))else .inr (rs,true)):=by
 refine Ao u.length (fun k=>((xrT u h k).1,((k:Int),(xrT u h k).2))) (fun k hk=> ?_) ?_
 ·have hln:=Xc u h k;have hk2:k<(xrT u h k).2.length:=by omega
  unfold xbS
  try dsimp only
  rw[dt (by omega),cond_true,As hk,Bq (xs:=u) (by omega) (by omega)];simp only[Aa,Int.toNat_natCast];rw[S6];by_cases c:1<u.getD k 0
  ·rw[dt c,cond_true,if_pos c,As hk2,Bq (xs:=(xrT u h k).2) (by omega) (by omega)];simp only[Aa,Int.toNat_natCast];rw[B8,Aj (z:=(k:Int)+1) (by omega)];rfl
  ·rw[df c,cond_false,if_neg c,Aj (z:=(k:Int)+1) (by omega)];rfl
 ·unfold xbS
  try dsimp only
  rw[df (by omega),cond_false];cases (xrT u h u.length).1<;>rfl
noncomputable def obI (n:Int)(srcs:List Int)(snks:List (List Int))(GR:List (List Int)×List (List Int)):(Int×(List Int×List Rt))->Option ((Int×(List Int×List Rt))⊕(List Rt×Bool)):=fun v14=>
 bif decide (v14.1<=12)then loop (rkI n srcs snks v14.2.1 v14.1 GR (fun rs=>(E9 ((v14.2.1.length:Int),rs)).bind fun u=>loop (xbI u v14.1 rs) (false,(0,v14.2.1)))) (0,v14.2.2)
 else Option.map Sum.inr (some (([]:List Rt),false))
noncomputable def obS (d:Dev)(ps:List Int)(cs:List B7)(G:List (List Int)):(Int×(List Rt×List Int))->Option ((Int×(List Rt×List Int))⊕(List Rt×Bool)):=fun v14=>
 bif decide (v14.1<=12)then loop (rkS d ps cs v14.2.2 v14.1 G (fun rs=>(Dy ((G.length:Int),(rs,(-1)))).bind fun u=>loop (xbS u v14.1 rs) (false,(0,v14.2.2)))) (0,v14.2.1)
 else Option.map Sum.inr (some (([]:List Rt),false))
def RoQ (d:Dev)(ps:List Int)(cs:List B7)(o:List Rt×Bool):Prop:=
 (o.2=false->o.1=[])/\(o.2=true->o.1.length=cs.length/\(∀j,j<cs.length->LG d ps cs j (o.1.getD j ([],[])))/\∀x,x<(Aq d).toNat->Am (ldT (Aq d).toNat o.1 (-1) o.1.length) x<=1)
theorem Adi (d:Dev)(ps:List Int)(cs:List B7):RoQ d ps cs ([],false):=⟨fun _=>rfl,fun e=>by cases e⟩
theorem Aue {u h:List Int}:∀{n},(xrT u h n).1=false->∀x,x<n->Am u x<=1
 | 0,_,x,hx=>by omega
 | n+1,e,x,hx=>by
  rw[S6]at e;split at e
  ·cases e
  ·rename_i c;by_cases q:x=n
   ·subst q;unfold Am;omega
   ·exact Aue e x (by omega)
theorem Ao5 {d:Dev}{ps:List Int}{cs:List B7}(hd:DOk d)(hp:PsR ps)(hpl:ps.length<=1048576)(hcs:cs.length<=100)(hcl:∀c∈cs,c.2.2.length<=1048576){R:List (List Int)}(hR:Uh (Aq d).toNat (dG d) R)
 (hsrc:∀c∈cs,0<=Fc d ps c.2.1):∀(m i:Nat) (hist:List Int) (rs:List Rt),i+m=13->1<=i->Arf (Aq d).toNat (400*(i:Int)) hist->Afs cs.length rs->
  ∃o,loop (obI (cs.length:Int) (Ol d ps cs) (Om d ps cs) (dG d,R)) ((i:Int),(hist,rs))=some o/\loop (obS d ps cs (dG d)) ((i:Int),(rs,hist))=some o/\o.1.length<=100/\(∀r∈o.1,r.1.length<=828/\r.2.length<=828)/\RoQ d ps cs o
 | 0,i,hist,rs,hm,h1,hh,hrs=>by
  refine⟨([],false),Xb ?_,Xb ?_,by simp,by simp,Adi d ps cs⟩
  ·unfold obI
   try dsimp only
   rw[df (by omega),cond_false]
  ·unfold obS
   try dsimp only
   rw[df (by omega),cond_false]
 | m+1,i,hist,rs,hm,h1,hh,hrs=>by
  have hn:=Bo hd;have hG:=Afq hd;have hGl:((dG d).length:Int)=((Aq d).toNat:Int):=by rw[hG.1]
  have hh1:Arf (Aq d).toNat 1000000 hist:=⟨hh.1,fun x hx=>by have:=hh.2 x hx;omega⟩;have key:=Ao4 hd hp hpl hcs hcl hR hsrc hh1 (i:=(i:Int)) (by omega) (fun rs=>(E9 ((hist.length:Int),rs)).bind fun u=>loop (xbI u (i:Int) rs) (false,(0,hist))) (fun rs=>(Dy (((dG d).length:Int),(rs,(-1)))).bind fun u=>loop (xbS u (i:Int) rs) (false,(0,hist))) cs.length 0 rs (by omega) hrs;have fI:∀X,loop (rkI (cs.length:Int) (Ol d ps cs) (Om d ps cs) hist (i:Int) (dG d,R) (fun rs=>(E9 ((hist.length:Int),rs)).bind fun u=>loop (xbI u (i:Int) rs) (false,(0,hist)))) (((0:Nat):Int),rs)=X->obI (cs.length:Int) (Ol d ps cs) (Om d ps cs) (dG d,R) ((i:Int),(hist,rs))=X:=fun X h=>by
   unfold obI
   try dsimp only
   rw[dt (by omega),cond_true];exact h
  have fS:∀X,loop (rkS d ps cs hist (i:Int) (dG d) (fun rs=>(Dy (((dG d).length:Int),(rs,(-1)))).bind fun u=>loop (xbS u (i:Int) rs) (false,(0,hist)))) (((0:Nat):Int),rs)=X->obS d ps cs (dG d) ((i:Int),(rs,hist))=X:=fun X h=>by
   unfold obS
   try dsimp only
   rw[dt (by omega),cond_true];exact h
  rcases key with⟨k1,k2⟩ | ⟨rs',hrs',hlg,k1,k2⟩
  ·exact⟨([],false),Me (fI _ k1),Me (fS _ k2),by simp,by simp,Adi d ps cs⟩
  ·have hok:=hrs'.ok (by omega);have hld:=Ahh (Aq d).toNat rs' (-1) rs'.length (by rw[hrs'.1];omega);have hll:=Tz (Aq d).toNat rs' (-1) rs'.length;have hrl:rs'.length<=100:=by rw[hrs'.1];exact hcs
   have eI:=Ab9 (Aq d).toNat rs' (by omega) hok;have eS:=Afb (Aq d).toNat rs' (-1) (by omega) hok;generalize hu:ldT (Aq d).toNat rs' (-1) rs'.length=u at*;have hhl:hist.length=u.length:=by rw[hh.1,hll]
   have k1' :=fI _ k1;have k2' :=fS _ k2
   try dsimp only at k1' k2'
   rw[hh.1,eI]at k1';rw[hGl,eS]at k2';simp only[Aa]at k1' k2';rw[Aws u hist _ _ hhl (by omega)]at k1';rw[Awt u hist _ _ hhl (by omega)]at k2';cases hx:(xrT u hist u.length).1 with
   | false=>
    rw[hx]at k1' k2';refine⟨(rs',true),Me k1',Me k2',hrl,fun r hr=>hrs'.2 r hr,⟨fun e=>(by cases e),fun _=>⟨hrs'.1,hlg (fun j hj=>by omega),fun x hxn=> ?_⟩⟩⟩;simp only;rw[hu];exact Aue hx x (by omega)
   | true=>
    rw[hx]at k1' k2';simp only[if_true]at k1' k2';rw[Aj (z:=(i:Int)+1) (by omega)]at k1' k2';have hx2:=Azy (N:=(Aq d).toNat) (u:=u) (h:=hist) (B:=400*(i:Int)) (fun x hx=>by have:=hld x hx;omega) hh (by omega) u.length (by omega);have hh2:Arf (Aq d).toNat (400*((i+1:Nat):Int)) (xrT u hist u.length).2:=⟨by rw[Xc];exact hh.1,fun x hx=>by have:=(hx2 x hx).1;omega⟩;obtain⟨o,o1,o2,o3⟩:=Ao5 hd hp hpl hcs hcl hR hsrc m (i+1) _ rs' (by omega) (by omega) hh2 hrs';exact⟨o,(Md k1').trans o1,(Md k2').trans o2,o3⟩
end Go.Pf
/-
  Own work. The law of routing all connections, plainly: it says true.
-/
namespace Go.Pf
open Go Go.Pu
set_option linter.unusedVariables false
theorem Arh (p:Nat->Bool):∀n,(∀k,k<n->p k=true)\/∃j,j<n/\p j=false/\∀k,k<j->p k=true:=by
 intro n
 induction n with
 | zero=>left;intro k hk;omega
 | succ n ih=>
  rcases ih with ih | ⟨j,h1,h2,h3⟩
  ·cases h:p n with
   | true=>
    left
    intro k hk;by_cases e:k=n
    ·subst e;exact h
    ·exact ih k (by omega)
   | false=>right;exact⟨n,by omega,h,ih⟩
  ·right;exact⟨j,by omega,h2,h3⟩
def Ui (d:Dev)(ps:List Int)(c:B7):Bool:=decide (0<=Fc d ps c.2.1) && !(E2 d ps c.2.2).isEmpty
theorem Afu (d:Dev)(ps:List Int){cs:List B7}{k:Nat}(h:k<cs.length):Ol d ps (cs.take (k+1))=Ol d ps (cs.take k)++[Fc d ps (D4 cs k).2.1]:=by
 have e:D4 cs k=cs[k]:=by unfold D4;rw[List.getD,List.getElem?_eq_getElem h];rfl
 unfold Ol;rw[Bu cs k h,List.map_append,e];rfl
theorem Afv (d:Dev)(ps:List Int){cs:List B7}{k:Nat}(h:k<cs.length):Om d ps (cs.take (k+1))=Om d ps (cs.take k)++[E2 d ps (D4 cs k).2.2]:=by
 have e:D4 cs k=cs[k]:=by unfold D4;rw[List.getD,List.getElem?_eq_getElem h];rfl
 unfold Om;rw[Bu cs k h,List.map_append,e];rfl
theorem Auf {xs ys:List (List Int)}(h:xs.length+ys.length<=1000000000):A3 24 xs ys=some (xs++ys):=Br (by omega) (by omega)
theorem Ayz (d:Dev)(ps:List Int)(cs:List B7)(hp:PsR ps)(hpl:ps.length<=1048576)(hc:Uf cs):
 ∃o,Oe (d,(ps,cs))=some o/\H5 (d,(ps,cs))=some o/\o.1.length<=100/\(∀r∈o.1,r.1.length<=828/\r.2.length<=828)/\RoQ d ps cs o/\(o.2=true->DOk d/\Oj (ps.length:Int) cs=true/\∀k,k<cs.length->Ui d ps (D4 cs k)=true):=by
 unfold Oe H5;dsimp only;rw[F7,Io];simp only[Aa];by_cases hd:DOk d
 rotate_left
 ·rw[df hd];exact⟨([],false),rfl,rfl,by simp,by simp,Adi d ps cs,fun e=>by cases e⟩
 rw[dt hd,Akc,Akd];simp only[Aa,Bool.not_true,cond_false];cases hcn:Oj (ps.length:Int) cs with
 | false=>exact⟨([],false),rfl,rfl,by simp,by simp,Adi d ps cs,fun e=>by cases e⟩
 | true=>
  have hcs:cs.length<=100:=by
   unfold Oj at hcn;simp only[Ai,decide_eq_true_eq]at hcn;omega
  simp only[Bool.not_true,cond_false];have hcl:=hc.2;have hn:=Bo hd;have hG:=Afq hd;obtain⟨R,hR1,hR2⟩:=Vd hd;rw[Bz (by omega) (by omega)];simp only[Aa];rcases Arh (fun k=>Ui d ps (D4 cs k)) cs.length with hall | ⟨j,hj,hbad,hgood⟩
  ·have hsrc:∀c∈cs,0<=Fc d ps c.2.1:=fun c hm=>by
    obtain⟨k,hk,rfl⟩:=List.getElem_of_mem hm;have:=hall k hk;have e:D4 cs k=cs[k]:=by unfold D4;rw[List.getD,List.getElem?_eq_getElem hk];rfl
    rw[e]at this;unfold Ui at this;simp only[Ai,decide_eq_true_eq]at this;exact this.1
   obtain⟨o,o1,o2,o3⟩:=Ao5 hd hp hpl hcs (fun c hm=>hcl c hm) hR2 hsrc 12 1 (List.replicate (Aq d).toNat 0) (List.replicate cs.length ([],[])) (by omega) (by omega) ⟨by simp,fun x hx=>by rw[Sw _ 0 hx];omega⟩ ⟨by simp,fun r hr=>by rw[List.eq_of_mem_replicate hr];simp⟩;refine⟨o,?_,?_,o3.1,o3.2.1,o3.2.2,fun _=>⟨hd,trivial,hall⟩⟩
   ·refine Ao cs.length (fun k=>(k:Int)) (fun k hk=> ?_) ?_
    ·obtain⟨g1,g2⟩:=Vf hk;have hg:=hall k hk;unfold Ui at hg;simp only[Ai,decide_eq_true_eq]at hg;have hcc:=hcl _ g2
     try dsimp only
     rw[dt (by omega),cond_true,g1];simp only[Aa];rw[Ss d ps _ hp];simp only[Aa];rw[df (by omega),cond_false,Pb d ps _ hp hcc];simp only[Aa];rw[df (fun e=>by
      have h0:E2 d ps (D4 cs k).2.2=[]:=List.eq_nil_of_length_eq_zero (by omega);rw[h0]at hg;simp at hg),cond_false,Aj (by omega)];rfl
    ·try dsimp only
     rw[df (by omega),cond_false,Add hd];simp only[Aa];have hgm:Ct 8 (0:Int) ((dG d).length:Int)=some (List.replicate (Aq d).toNat 0):=by rw[hG.1,Bz (by omega) (by omega)]
     rw[hgm];simp only[Aa];have o2' :loop (obS d ps cs (dG d)) (1,(List.replicate cs.length ([],[]),List.replicate (Aq d).toNat 0))=some o:=o2;refine Eq.trans (congrArg (Option.map Sum.inr) (Eq.trans ?_ o2')) rfl;rfl
   ·refine Ao cs.length (fun k=>(Ol d ps (cs.take k),(Om d ps (cs.take k),(k:Int)))) (fun k hk=> ?_) ?_
    ·obtain⟨g1,g2⟩:=Vf hk;have hg:=hall k hk;unfold Ui at hg;simp only[Ai,decide_eq_true_eq]at hg;have hcc:=hcl _ g2;have hl1:(Ol d ps (cs.take k)).length<=k:=by unfold Ol;rw[Ae,List.length_take];omega
     have hl2:(Om d ps (cs.take k)).length<=k:=by unfold Om;rw[Ae,List.length_take];omega
     try dsimp only
     rw[dt (by omega),cond_true,g1];simp only[Aa];rw[Wx d ps _ hp hpl];simp only[Aa];rw[T1 d ps _ hp hpl hcc];simp only[Aa];rw[df (by omega),cond_false];have h0:(E2 d ps (D4 cs k).2.2).isEmpty=false:=by simpa using hg.2
     unfold Adz;rw[Bool.true_or,if_pos rfl,h0];simp only[Aa,cond_false];rw[gapp_ok (by simp only[Af];omega)];simp only[Aa];rw[Auf (by simp only[Af];omega)];simp only[Aa];rw[Afu d ps hk,Afv d ps hk,Aj (by omega)];rfl
    ·try dsimp only
     rw[df (by omega),cond_false,List.take_length,hR1];simp only[Aa];rw[Dr hd];simp only[Aa];have hN:Aq d=((Aq d).toNat:Int):=by omega
     rw[hN,Bz (by omega) (by omega)];simp only[Aa];have o1' :loop (obI (cs.length:Int) (Ol d ps cs) (Om d ps cs) (dG d,R)) (1,(List.replicate (Aq d).toNat 0,List.replicate cs.length ([],[])))=some o:=o1;refine Eq.trans (congrArg (Option.map Sum.inr) (Eq.trans ?_ o1')) rfl;rfl
  ·refine⟨([],false),?_,?_,by simp,by simp,Adi d ps cs,fun e=>by cases e⟩
   ·refine Ao j (fun k=>(k:Int)) (fun k hk=> ?_) ?_
    ·obtain⟨g1,g2⟩:=Vf (show k<cs.length by omega);have hg:=hgood k hk;unfold Ui at hg;simp only[Ai,decide_eq_true_eq]at hg;have hcc:=hcl _ g2
     try dsimp only
     rw[dt (by omega),cond_true,g1];simp only[Aa];rw[Ss d ps _ hp];simp only[Aa];rw[df (by omega),cond_false,Pb d ps _ hp hcc];simp only[Aa];rw[df (fun e=>by
      have h0:E2 d ps (D4 cs k).2.2=[]:=List.eq_nil_of_length_eq_zero (by omega);rw[h0]at hg;simp at hg),cond_false,Aj (by omega)];rfl
    ·obtain⟨g1,g2⟩:=Vf hj;have hcc:=hcl _ g2
     try dsimp only
     rw[dt (by omega),cond_true,g1];simp only[Aa];rw[Ss d ps _ hp];simp only[Aa];by_cases h0:Fc d ps (D4 cs j).2.1<0
     ·rw[dt h0];rfl
     ·rw[df h0,cond_false,Pb d ps _ hp hcc];simp only[Aa];have h1:E2 d ps (D4 cs j).2.2=[]:=by
       unfold Ui at hbad;rw[dt (show 0<=Fc d ps (D4 cs j).2.1 by omega)]at hbad;simpa using hbad
      rw[h1];rfl
   ·refine Ao j (fun k=>(Ol d ps (cs.take k),(Om d ps (cs.take k),(k:Int)))) (fun k hk=> ?_) ?_
    ·obtain⟨g1,g2⟩:=Vf (show k<cs.length by omega);have hg:=hgood k hk;unfold Ui at hg;simp only[Ai,decide_eq_true_eq]at hg;have hcc:=hcl _ g2;have hl1:(Ol d ps (cs.take k)).length<=k:=by unfold Ol;rw[Ae,List.length_take];omega
     have hl2:(Om d ps (cs.take k)).length<=k:=by unfold Om;rw[Ae,List.length_take];omega
     try dsimp only
     rw[dt (by omega),cond_true,g1];simp only[Aa];rw[Wx d ps _ hp hpl];simp only[Aa];rw[T1 d ps _ hp hpl hcc];simp only[Aa];rw[df (by omega),cond_false];have h0:(E2 d ps (D4 cs k).2.2).isEmpty=false:=by simpa using hg.2
     unfold Adz;rw[Bool.true_or,if_pos rfl,h0];simp only[Aa,cond_false];rw[gapp_ok (by simp only[Af];omega)];simp only[Aa];rw[Auf (by simp only[Af];omega)];simp only[Aa];rw[Afu d ps (by omega),Afv d ps (by omega),Aj (by omega)];rfl
    ·obtain⟨g1,g2⟩:=Vf hj;have hcc:=hcl _ g2
     try dsimp only
     rw[dt (by omega),cond_true,g1];simp only[Aa];rw[Wx d ps _ hp hpl];simp only[Aa];rw[T1 d ps _ hp hpl hcc];simp only[Aa];by_cases h0:Fc d ps (D4 cs j).2.1<0
     ·rw[dt h0];rfl
     ·rw[df h0,cond_false];have h1:E2 d ps (D4 cs j).2.2=[]:=by
       unfold Ui at hbad;rw[dt (show 0<=Fc d ps (D4 cs j).2.1 by omega)]at hbad;simpa using hbad
      rw[h1];rfl
end Go.Pf
/-
  Own work. The law, plainly: it says true.
-/
namespace Go.Pf
open Go Go.Pu
set_option linter.unusedVariables false
end Go.Pf
/-
  Own work. The law of overused nodes, plainly: it says true.
-/
namespace Go.Pf
open Go Go.Pu
set_option linter.unusedVariables false
end Go.Pf
/-
  Own work. Routes that a finished routing gives: legal, apart, nothing overused.
-/
namespace Go.Pf
open Go Go.Pu
set_option linter.unusedVariables false
theorem Awu {N:Nat}{ns c0:List Int}{M:Int}(hl:c0.length=N)(hM:0<=M/\M<=1000000)(h:∀x,x<N->0<=Am c0 x/\Am c0 x<=M):∀j,j<=ns.length->∀x,x<N->(x:Int)∈ns.take j->Am (cnT N ns c0 j) x=Am c0 x+1:=by
 intro j
 induction j with
 | zero=>intro _ x _ hx;simp at hx
 | succ j ih=>
  intro hj x hx hm;have ih:=ih (by omega) x hx;have hlen:=Wr N ns c0 j;have h0:=h x hx;rw[D3 (show j<ns.length by omega)]at hm;unfold cnT;by_cases q:inN N (Am ns j)/\Am ns j∉ns.take j
  ·rw[if_pos q];have hyi:(((Am ns j).toNat:Nat):Int)=Am ns j:=by have:=q.1;unfold inN at this;omega
   have hy:(Am ns j).toNat<N:=by have:=q.1;unfold inN at this;omega
   unfold A8;rw[C6 (D:=cnT N ns c0 j) _ _ (by omega)];by_cases c:x=(Am ns j).toNat
   ·have e:=(Am3 (ns:=ns) hl hM h j (by omega) x hx).2 (by rw[c,hyi];exact q.2);have e2:(cnT N ns c0 j).getD (Am ns j).toNat 0=Am c0 x:=by rw[<-c];exact e
    rw[if_pos c,e2,Aj (by omega)]
   ·rw[if_neg c];rcases List.mem_append.1 hm with p | p
    ·exact ih p
    ·have:=List.mem_singleton.1 p;omega
  ·rw[if_neg q];rcases List.mem_append.1 hm with p | p
   ·exact ih p
   ·have e:=List.mem_singleton.1 p;by_cases c:Am ns j∈ns.take j
    ·rw[<-e]at c;exact ih c
    ·exact absurd ⟨by unfold inN;omega,c⟩ q
theorem Awv {N:Nat}{ns c0:List Int}{M:Int}(hl:c0.length=N)(hM:0<=M/\M<=1000000)(h:∀x,x<N->0<=Am c0 x/\Am c0 x<=M){x:Nat}(hx:x<N):Am (cnT N ns c0 ns.length) x=Am c0 x+(if(x:Int)∈ns then 1 else 0):=by
 by_cases c:(x:Int)∈ns
 ·rw[if_pos c];exact Awu hl hM h ns.length (Nat.le_refl _) x hx (by rw[List.take_length];exact c)
 ·rw[if_neg c,Int.add_zero];exact(Am3 hl hM h ns.length (Nat.le_refl _) x hx).2 (by rw[List.take_length];exact c)
def Aeh (rs:List Rt)(k:Nat):Rt:=rs.getD k ([],[])
theorem Ao6 (N:Nat)(rs:List Rt){k:Nat}(hk:k<=1000){x:Nat}(hx:x<N):Am (ldT N rs (-1) (k+1)) x=Am (ldT N rs (-1) k) x+(if(x:Int)∈(Aeh rs k).1 then 1 else 0):=by
 have hb:=Ahh N rs (-1) k hk;have hl:=Tz N rs (-1) k;have e:ldT N rs (-1) (k+1)=cnT N (Aeh rs k).1 (ldT N rs (-1) k) (Aeh rs k).1.length:=by
  show(if(k:Int)= -1 then _ else _)=_;rw[if_neg (by omega)];rfl
 rw[e];exact Awv (M:=1000) hl (by omega) (fun y hy=>by have:=hb y hy;omega) hx
theorem Aug (N:Nat)(rs:List Rt){x:Nat}(hx:x<N):∀k,k<=1000->∀i,i<k->(x:Int)∈(Aeh rs i).1->1<=Am (ldT N rs (-1) k) x
 | 0,_,i,hi,_=>by omega
 | k+1,hk,i,hi,hm=>by
  have hb:=(Ahh N rs (-1) k (by omega) x hx).1;rw[Ao6 N rs (by omega) hx];by_cases c:i=k
  ·subst c;rw[if_pos hm];omega
  ·have:=Aug N rs hx k (by omega) i (by omega) hm;split<;>omega
theorem Auh (N:Nat)(rs:List Rt){x:Nat}(hx:x<N):∀k,k<=1000->∀i j,i<j->j<k->(x:Int)∈(Aeh rs i).1->(x:Int)∈(Aeh rs j).1->2<=Am (ldT N rs (-1) k) x
 | 0,_,i,j,_,hj,_,_=>by omega
 | k+1,hk,i,j,hij,hj,h1,h2=>by
  rw[Ao6 N rs (by omega) hx];by_cases c:j=k
  ·subst c;have:=Aug N rs hx j (by omega) i hij h1;rw[if_pos h2];omega
  ·have:=Auh N rs hx k (by omega) i j hij (by omega) h1 h2;split<;>omega
def Axp (N:Nat)(rs:List Rt):Prop:=∀i j,i<j->j<rs.length->∀x:Int,0<=x->x<(N:Int)->x∈(Aeh rs i).1->x∈(Aeh rs j).1->False
theorem Aui {N:Nat}{rs:List Rt}(hl:rs.length<=1000)(h:∀x,x<N->Am (ldT N rs (-1) rs.length) x<=1):Axp N rs:=fun i j hij hj x h0 h1 hi hj2=>by
 obtain⟨v,rfl⟩:∃v:Nat,x=(v:Int):=⟨x.toNat,by omega⟩;have e1:=h v (by omega);have e2:=Auh N rs (show v<N by omega) rs.length hl i j hij hj hi hj2;omega
theorem Am4 {d:Dev}{src:Int}{snks ns ps:List Int}(h:roP d src snks ns ps=true):(1<=ns.length/\ps.length=ns.length)/\(∀k,k<ns.length->As9 d src snks ns ps k)/\∀s∈snks,s∈ns:=by
 unfold roP at h;split at h
 rotate_left
 ·cases h
 rename_i h1;split at h
 rotate_left
 ·cases h
 rename_i h2;refine⟨⟨by omega,h1.2⟩,fun k hk=>of_decide_eq_true (List.all_eq_true.1 h2 k (List.mem_range.2 hk)),fun s hs=> ?_⟩;exact of_decide_eq_true (List.all_eq_true.1 h s hs)
theorem Auj {d:Dev}{src:Int}{snks ns ps:List Int}{k:Nat}(h:As9 d src snks ns ps k):DOk d/\0<=Am ns k/\Am ns k<Aq d:=⟨h.1.1,h.1.2.1,h.1.2.2.1⟩
def Azz (rs:List Rt)(k:Nat)(x:Int):Prop:=∃i,i<k/\x∈(Aeh rs i).1
structure Auk (d:Dev)(ps:List Int)(cns:List B7)(rs:List Rt):Prop where
 dev:DOk d
 cn:Oj (ps.length:Int) cns=true
 len:rs.length=cns.length
 lg:∀j,j<cns.length->LG d ps cns j (Aeh rs j)
 sk:∀j,j<cns.length->Ui d ps (D4 cns j)=true
 ld:∀x,x<(Aq d).toNat->Am (ldT (Aq d).toNat rs (-1) rs.length) x<=1
theorem Auk.ap {d:Dev}{ps:List Int}{cns:List B7}{rs:List Rt}(h:Auk d ps cns rs)(hl:cns.length<=1000):Axp (Aq d).toNat rs:=Aui (by rw[h.len];exact hl) h.ld
theorem Ay0 {d:Dev}{ps:List Int}{cs:List B7}(hp:PsR ps)(hpl:ps.length<=1048576)(hc:Uf cs):
 ∃o,Oe (d,(ps,cs))=some o/\H5 (d,(ps,cs))=some o/\Ajm o.1/\(o.2=false->o.1=[])/\(o.2=true->Auk d ps cs o.1):=by
 obtain⟨o,o1,o2,o3,o4,o5,o6⟩:=Ayz d ps cs hp hpl hc;refine⟨o,o1,o2,⟨by omega,fun r hr=>by have:=o4 r hr;exact⟨by omega,by omega⟩⟩,o5.1,fun e=> ?_⟩;obtain⟨q1,q2,q3⟩:=o5.2 e;obtain⟨p1,p2,p3⟩:=o6 e;exact⟨p1,p2,q1,q2,p3,q3⟩
end Go.Pf
/-
  Own work. A set of wires that refutes excludes a finished routing.
-/
namespace Go.Pf
open Go Go.Pu
set_option linter.unusedVariables false
theorem Ari {d:Dev}{src:Nat}{snks ns ps cut:List Int}(h:roP d (src:Int) snks ns ps=true)(hw:∀x∈ns,x∉cut):∀i,i<ns.length->Rch (Aq d).toNat (dG d) cut src (Am ns i).toNat:=by
 obtain⟨_,hat,_⟩:=Am4 h;intro i
 induction i using Nat.strongRecOn with
 | ind i ih=>
  intro hi;obtain⟨q1,q2,q3⟩:=hat i hi;by_cases k0:i=0
  ·subst k0;rw[if_pos rfl]at q3;rw[q3.1,Int.toNat_natCast];exact .base
  ·rw[if_neg k0]at q3;obtain⟨p1,p2,_⟩:=q3;have hj:(Am ps i).toNat<i:=by omega
   have e:pAt ns (Am ps i)=Am ns (Am ps i).toNat:=rfl;rw[e]at p2;have hu:=Adc p2;have hv:=q1.2;have hg:=Aoy d (v:=(Am ns i).toNat) (by omega);have ev:(((Am ns i).toNat:Nat):Int)=Am ns i:=by omega
   have eu:(((Am ns (Am ps i).toNat).toNat:Nat):Int)=Am ns (Am ps i).toNat:=by omega
   refine .step _ _ (ih _ hj (by omega)) (by omega) (by omega) ?_ ?_
   ·rw[hg,ev,eu];exact p2
   ·rw[ev];exact hw _ (Aad hi)
theorem Aul {d:Dev}{ps:List Int}{cs:List B7}{k:Nat}{r:Rt}{cut:List Int}(hd:DOk d)(hl:LG d ps cs k r)(hs:Yj d ps (D4 cs k) cut=true):∃x∈r.1,x∈cut:=by
 refine Classical.byContradiction fun hno=> ?_
 have hw:∀x∈r.1,x∉cut:=fun x h1 h2=>hno ⟨x,h1,h2⟩
 unfold Yj at hs;split at hs
 rotate_left
 ·cases hs
 rename_i h0;split at hs
 ·cases hs
 rename_i hall;apply hall;have hn:=Aft h0;unfold LG at hl;obtain⟨src,hsrc⟩:∃src:Nat,Fc d ps (D4 cs k).2.1=(src:Int):=⟨(Fc d ps (D4 cs k).2.1).toNat,by omega⟩;rw[hsrc]at hl hn ⊢;obtain⟨r1,r2,r3⟩:=Adg hd hn cut;obtain⟨_,hat,hsk⟩:=Am4 hl;rw[List.all_eq_true];intro s hs;obtain⟨j,hj,rfl⟩:=Ib (hsk s hs);have hb:=(hat j hj).1.2;exact(r3 _ (by omega)).2 (Ari hl hw j hj)
theorem Afw {d:Dev}{ps:List Int}{cs:List B7}{rs:List Rt}{cut:List Int}(hf:Auk d ps cs rs)(hl:cs.length<=1000):∀k,k<=cs.length->∃ws:List Int,ws.Nodup/\(∀x∈ws,x∈cut/\(0<=x/\x<Aq d)/\Azz rs k x)/\(ws.length:Int)=T5 d ps cs cut k
 | 0,_=>⟨[],List.nodup_nil,fun x hx=>(by cases hx),rfl⟩
 | k+1,hk=>by
  obtain⟨ws,h1,h2,h3⟩:=Afw hf hl k (by omega);have hup:∀x∈ws,x∈cut/\(0<=x/\x<Aq d)/\Azz rs (k+1) x:=fun x hx=>by
   obtain⟨a,b,i,hi,hm⟩:=h2 x hx;exact⟨a,b,i,by omega,hm⟩
  show ∃ws:List Int,ws.Nodup/\_/\(ws.length:Int)=T5 d ps cs cut k+(if Yj d ps (D4 cs k) cut=true then 1 else 0);by_cases c:Yj d ps (D4 cs k) cut=true
  ·rw[if_pos c];have hlg:=hf.lg k (by omega);obtain⟨x,hx,hc⟩:=Aul hf.dev hlg c;have hr:0<=x/\x<Aq d:=by
    unfold LG at hlg;obtain⟨_,hat,_⟩:=Am4 hlg;obtain⟨j,hj,rfl⟩:=Ib hx;exact(Auj (hat j hj)).2
   refine⟨x::ws,List.nodup_cons.2 ⟨fun hm=> ?_,h1⟩,fun y hy=> ?_,by rw[Ab];omega⟩
   ·obtain⟨_,_,i,hi,hmi⟩:=h2 x hm;exact hf.ap hl i k hi (by rw[hf.len];omega) x hr.1 (by omega) hmi hx
   ·rcases List.mem_cons.1 hy with e | e
    ·rw[e];exact⟨hc,hr,k,by omega,hx⟩
    ·exact hup y e
  ·rw[if_neg c];exact⟨ws,h1,hup,by omega⟩
theorem Adj :∀(xs ys:List Int),xs.Nodup->(∀x∈xs,x∈ys)->xs.length<=ys.length
 | [],_,_,_=>by simp
 | x::xs,ys,h,hs=>by
  have hx:=hs x (by simp);obtain⟨h1,h2⟩:=List.nodup_cons.1 h;have e:=Adj xs (ys.erase x) h2 (fun y hy=>by
   have hne:y≠x:=fun e=>h1 (e▸hy)
   exact(List.mem_erase_of_ne hne).2 (hs y (by simp[hy])))
  rw[List.length_erase_of_mem hx]at e;have:=List.length_pos_of_mem hx;simp only[Ab];omega
theorem Ay1 {d:Dev}{ps:List Int}{cs:List B7}{rs:List Rt}{cut:List Int}(hf:Auk d ps cs rs)(hl:cs.length<=1000):W7 d ps cs cut=false:=by
 unfold W7;split
 rotate_left
 ·rfl
 obtain⟨ws,h1,h2,h3⟩:=Afw (cut:=cut) hf hl cs.length (Nat.le_refl _);have:=Adj ws cut h1 (fun x hx=>(h2 x hx).1);rw[df (by omega)]
theorem Aww {d:Dev}{ps:List Int}{cs:List B7}(h:(frP d ps cs).2=true):W7 d ps cs (frP d ps cs).1=true:=by
 unfold frP at h ⊢;split at h
 rotate_left
 ·cases h
 rename_i q;rw[if_pos q];cases hf:(List.range (d.1+d.2.1 - 2).toNat).find? (fun j=>W7 d ps cs (Li d j))with
 | none=>rw[hf]at h;cases h
 | some j=>
  have h2:=List.find?_some hf;exact h2
theorem Aum {d:Dev}{ps:List Int}{cs:List B7}(h:(frP d ps cs).2=false):(frP d ps cs).1=[]:=by
 unfold frP at h ⊢;split at h
 rotate_left
 ·rename_i q;rw[if_neg q]
 rename_i q;rw[if_pos q];cases hf:(List.range (d.1+d.2.1 - 2).toNat).find? (fun j=>W7 d ps cs (Li d j))with
 | none=>rfl
 | some j=>rw[hf]at h;cases h
end Go.Pf
/-
  Own work. The law of refutations that are found, plainly: it says true.
-/
namespace Go.Pf
open Go Go.Pu
set_option linter.unusedVariables false
theorem Ra (x:List Int)(h:InR (tS 0 (.int .u8)) x):C4 x=some true:=by
 unfold C4;rw[Ayg];simp only[Aa];by_cases hb:1048576<(x.length:Int)
 ·rw[dt hb];rfl
 rw[df hb,cond_false];obtain⟨⟨d,ps,cs,ws⟩,e,hq⟩:=Aef (b:=x) (by unfold M2;omega);rw[e];simp only at hq;simp only[Aa];have hpl:=hq.pl;have hcl:=hq.cl;have hok:=hq.cns;have hle:=Awn d ps cs;rw[Awl d ps cs hq.pr hok,Awm d ps cs hq.pr (by omega) hok];simp only[Aa,beq_self_eq_true,Bool.true_xor,Bool.not_true,cond_false];cases hf:(frP d ps cs).2 with
 | false=>
  rw[Aum hf,Ajq,Sq];simp only[Bool.not_false,cond_true,Ac,Aa];rw[dt (by rfl),cond_true];simp
 | true=>
  obtain⟨o,_,o2,_,_,o5⟩:=Ay0 (d:=d) hq.pr (by omega) hok;have hr:=Aww hf;rw[o2];simp only[Bool.not_true,cond_false,Aa];cases ho:o.2 with
  | true=>
   have:=Ay1 (cut:=(frP d ps cs).1) (o5 ho) (by omega);rw[this]at hr;cases hr
  | false=>
   rw[At3 d ps cs _ hq.pr (by omega) hok (by omega),hr];rfl
end Go.Pf
