/-
  Own work: parts Flb, Flc, Fld, Fle, LawFnPackKeeps, LawFnPackLes, plain lemmas.
-/
import Derived.Test.YtjpkedhcbnklmaaQ1
import Derived.Test.YtjpkedhcbnklmaaQ0
/-
  Own work. Flows, plainly: what a flow is, and one more path.
-/
namespace Go.Pf
open Go Go.Pu
set_option linter.unusedVariables false
theorem cnt_upd {f g:Nat->List Int}{j:Nat}(x:Int):∀N,j<N->(∀k,k<N->k≠j->f k=g k)->((List.range N).flatMap f).count x+(g j).count x=((List.range N).flatMap g).count x+(f j).count x
 | 0,h,_=>by omega
 | N+1,h,hk=>by
  rw[List.range_succ,List.flatMap_append,List.count_append,List.flatMap_append,List.count_append];simp only[List.flatMap_cons,List.flatMap_nil,List.append_nil];by_cases c:j=N
  ·subst c;have:(List.range j).flatMap f=(List.range j).flatMap g:=by
    have key:∀m,m<=j->(List.range m).flatMap f=(List.range m).flatMap g:=fun m=>by
     induction m with
     | zero=>intro _;rfl
     | succ m ih=>
      intro hm;rw[List.range_succ,List.flatMap_append,List.flatMap_append,ih (by omega)];simp only[List.flatMap_cons,List.flatMap_nil,List.append_nil];rw[hk m (by omega) (by omega)]
    exact key j (Nat.le_refl _)
   rw[this];omega
  ·have:=cnt_upd x N (by omega) (fun k h1 h2=>hk k (by omega) h2);rw[hk N (by omega) (fun e=>c e.symm)];omega
theorem flat_ext {f g:Nat->List Int}:∀N,(∀k,k<N->f k=g k)->(List.range N).flatMap f=(List.range N).flatMap g
 | 0,_=>rfl
 | N+1,h=>by
  rw[List.range_succ,List.flatMap_append,List.flatMap_append,flat_ext N (fun k hk=>h k (by omega))];simp only[List.flatMap_cons,List.flatMap_nil,List.append_nil];rw[h N (by omega)]
def sF (S:List Bool)(ab:List Int)(k:Nat):List Int:=if bI S (k:Int)=true then [nI ab (k:Int)]else []
def cA (n:SNet)(S:List Bool)(ab:List Int)(a:Int):Nat:=((List.range (nodesOf n).toNat).flatMap (sF S ab)).count a
theorem cA_ext {n:SNet}{S S' :List Bool}{ab ab' :List Int}(h:∀k,0<=k->k<nodesOf n->bI S k=bI S' k/\(bI S k=true->nI ab k=nI ab' k))(a:Int):cA n S ab a=cA n S' ab' a:=by
 unfold cA;rw[flat_ext _ fun k hk=> ?_];obtain⟨h1,h2⟩:=h (k:Int) (by omega) (by omega);unfold sF;rw[<-h1];split
 ·rename_i c;rw[h2 c]
 ·rfl
theorem cA_off {n:SNet}{S:List Bool}{ab:List Int}(hl:(S.length:Int)=nodesOf n){j:Int}(j0:0<=j)(j1:j<nodesOf n)(hj:bI S j=true)(a:Int):cA n S ab a=cA n (gset S j false) ab a+if nI ab j=a then 1 else 0:=by
 have h:=cnt_upd (f:=sF S ab) (g:=sF (gset S j false) ab) (j:=j.toNat) a (nodesOf n).toNat (by omega) fun k hk hne=>by
  unfold sF;rw[bI_set j0 (by omega) (by omega),if_neg (show ¬j=(k:Int)by omega)]
 have e1:sF (gset S j false) ab j.toNat=[]:=by
  unfold sF;rw[show((j.toNat:Nat):Int)=j by omega,bI_set j0 (by omega) j0,if_pos rfl];rfl
 have e2:sF S ab j.toNat=[nI ab j]:=by
  unfold sF;rw[show((j.toNat:Nat):Int)=j by omega,hj];rfl
 rw[e1,e2,List.count_singleton]at h;unfold cA;simp only[List.count_nil,Nat.add_zero]at h;rw[h];by_cases c:nI ab j=a
 ·rw[if_pos c,if_pos (by simp[c])]
 ·rw[if_neg c,if_neg (by simpa using c)]
def vA (n:SNet)(S:List Bool)(a:Int):Nat:=if firstOf n<=a/\bI S a=true then 1 else 0
def rtE (n:SNet)(U:List Bool)(k:Int):Prop:=∃j,0<=j/\bI U j=true/\FR n j k/\bI U k=false
def tyE (n:SNet)(U:List Bool)(ab:List Int)(k:Int):Prop:=(nI ab k= -1/\rtE n U k)\/(0<=nI ab k/\FR n (nI ab k) k)
structure FB (n:SNet)(U S:List Bool)(ab:List Int)(P:Int->Prop)(ex:Int):Prop where
 lS:(S.length:Int)=nodesOf n
 lA:AbOk n ab
 ty:∀k,0<=k->k<nodesOf n->k≠ex->bI S k=true->tyE n U ab k
 pp:∀k,0<=k->k<nodesOf n->bI S k=true->P k
structure FI (n:SNet)(U S:List Bool)(ab:List Int)(P:Int->Prop)(fl:Nat):Prop where
 fb:FB n U S ab P (-5)
 cn:∀a,0<=a->a<nodesOf n->cA n S ab a=vA n S a
 st:cA n S ab (-1)=fl
structure QE (n:SNet)(U S:List Bool)(ab:List Int)(P:Int->Prop)(fl:Nat)(j:Int):Prop where
 fb:FB n U S ab P j
 j0:0<=j
 j1:j<nodesOf n
 hj:bI S j=true
 cn:∀a,0<=a->a<nodesOf n->cA n (gset S j false) ab a=vA n S a
 st:cA n (gset S j false) ab (-1)=fl
structure QO (n:SNet)(U S:List Bool)(ab:List Int)(P:Int->Prop)(fl:Nat)(k:Int):Prop where
 fb:FB n U S ab P (-5)
 ia:IsA n k
 pk:P k
 cn:∀a,0<=a->a<nodesOf n->cA n S ab a=vA n S a+if a=k then 1 else 0
 st:cA n S ab (-1)=fl
theorem vA_set {n:SNet}{S:List Bool}(hl:(S.length:Int)=nodesOf n){k:Int}(k0:0<=k)(k1:k<nodesOf n)(v:Bool){a:Int}(a0:0<=a):vA n (gset S k v) a=if k=a then(if firstOf n<=a/\v=true then 1 else 0)else vA n S a:=by
 unfold vA;rw[bI_set k0 (by omega) a0];by_cases c:k=a
 ·rw[if_pos c,if_pos c]
 ·rw[if_neg c,if_neg c]
theorem step_in {n:SNet}{U S:List Bool}{ab:List Int}{P:Int->Prop}{fl:Nat}{k:Int}(k0:0<=k)(k1:k<nodesOf n)(hk:bI S k=false)(pk:P k)(fb:FB n U S ab P (-5))(st:cA n S ab (-1)=fl)(cn:∀a,0<=a->a<nodesOf n->cA n S ab a=vA n S a+if a=k/\firstOf n<=k then 1 else 0):QE n U (gset S k true) ab P fl k:=by
 have hl:=fb.lS;have g:∀x,0<=x->bI (gset S k true) x=if k=x then true else bI S x:=fun x hx=>bI_set k0 (by omega) hx true
 have hx:∀a,cA n (gset (gset S k true) k false) ab a=cA n S ab a:=fun a=>cA_ext (fun x x0 x1=>by
  rw[bI_set k0 (by rw[gset_len];omega) x0,g x x0];by_cases c:k=x
  ·subst c;rw[if_pos rfl];exact⟨hk.symm,fun e=>(by cases e)⟩
  ·rw[if_neg c,if_neg c];exact⟨rfl,fun _=>rfl⟩) a
 refine⟨⟨by rw[gset_len];exact hl,fb.lA,fun x x0 x1 hne hx=> ?_,fun x x0 x1 hx=> ?_⟩,k0,k1,by rw[g k k0,if_pos rfl],fun a a0 a1=> ?_,by rw[hx];exact st⟩
 ·rw[g x x0,if_neg (fun e=>hne e.symm)]at hx;exact fb.ty x x0 x1 (by omega) hx
 ·rw[g x x0]at hx;split at hx
  ·rename_i c;rw[<-c];exact pk
  ·exact fb.pp x x0 x1 hx
 ·rw[hx,cn a a0 a1,vA_set hl k0 k1 true a0];by_cases c:k=a
  ·subst c;unfold vA;rw[if_pos rfl,hk,if_neg (show ¬(firstOf n<=k/\false=true)from fun e=>by cases e.2)];by_cases c2:firstOf n<=k
   ·rw[if_pos ⟨rfl,c2⟩,if_pos ⟨c2,rfl⟩]
   ·rw[if_neg (fun e=>c2 e.2),if_neg (fun e=>c2 e.1)]
  ·rw[if_neg c,if_neg (fun e=>c e.1.symm)];rfl
theorem QO.inn {n:SNet}{U S:List Bool}{ab:List Int}{P:Int->Prop}{fl:Nat}{k:Int}(h:QO n U S ab P fl k)(hn:NOk n)(hk:bI S k=false):QE n U (gset S k true) ab P fl k:=by
 have hia:=h.ia;have hc:=caps_bd hn.caps;unfold IsA at hia;refine step_in (by omega) hia.2 hk h.pk h.fb h.st fun a a0 a1=> ?_
 rw[h.cn a a0 a1];by_cases c:a=k
 ·rw[if_pos c,if_pos ⟨c,hia.1⟩]
 ·rw[if_neg c,if_neg (fun e=>c e.1)]
theorem QO.up {n:SNet}{U S:List Bool}{ab:List Int}{P:Int->Prop}{fl:Nat}{k j:Int}(h:QO n U S ab P fl k)(j0:0<=j)(j1:j<nodesOf n)(hj:bI S j=true)(he:nI ab j=k)(hk:0<=k):QE n U S ab P fl j:=by
 refine⟨⟨h.fb.lS,h.fb.lA,fun x x0 x1 hne hx=>h.fb.ty x x0 x1 (by omega) hx,h.fb.pp⟩,j0,j1,hj,fun a a0 a1=> ?_,?_⟩
 ·have h1:=cA_off h.fb.lS j0 j1 hj (ab:=ab) a;have h2:=h.cn a a0 a1;rw[he]at h1;by_cases c:k=a
  ·rw[if_pos c]at h1;rw[if_pos c.symm]at h2;omega
  ·rw[if_neg c]at h1;rw[if_neg (fun e=>c e.symm)]at h2;omega
 ·have h1:=cA_off h.fb.lS j0 j1 hj (ab:=ab) (-1);have h2:=h.st;rw[he,if_neg (by omega)]at h1;omega
theorem ab_set {n:SNet}{ab:List Int}(h:AbOk n ab){j v:Int}(hv: -1<=v/\v<nodesOf n):AbOk n (gset ab j v):=⟨by rw[gset_len];exact h.1,fun y hy=>by
 rcases gset_mem hy with hy | rfl
 ·exact h.2 y hy
 ·exact hv⟩
theorem QE.cA {n:SNet}{U S:List Bool}{ab:List Int}{P:Int->Prop}{fl:Nat}{j:Int}(h:QE n U S ab P fl j)(v a:Int):cA n S (gset ab j v) a=Go.Pf.cA n (gset S j false) ab a+if v=a then 1 else 0:=by
 have hl:=h.fb.lS;have hal:=h.fb.lA.1;have j0:=h.j0;have j1:=h.j1;rw[cA_off hl j0 j1 h.hj,nI_set j0 (by omega) j0,if_pos rfl]
 congr 1
 refine cA_ext (fun x x0 x1=>⟨rfl,fun hx=> ?_⟩) a;rw[bI_set j0 (by omega) x0]at hx;by_cases c:j=x
 ·rw[if_pos c]at hx;cases hx
 ·rw[nI_set j0 (by omega) x0,if_neg c]
theorem QE.root {n:SNet}{U S:List Bool}{ab:List Int}{P:Int->Prop}{fl:Nat}{j:Int}(h:QE n U S ab P fl j)(hr:rtE n U j)(hn:NOk n):FI n U S (gset ab j (-1)) P (fl+1):=by
 have hal:=h.fb.lA.1;have j0:=h.j0;have j1:=h.j1;have hc:=caps_bd hn.caps;refine⟨⟨h.fb.lS,ab_set h.fb.lA (by omega),fun x x0 x1 hne hx=> ?_,h.fb.pp⟩,fun a a0 a1=> ?_,?_⟩
 ·unfold tyE;rw[nI_set j0 (by omega) x0];by_cases c:j=x
  ·rw[if_pos c];exact .inl ⟨rfl,c▸hr⟩
  ·rw[if_neg c];exact h.fb.ty x x0 x1 (fun e=>c e.symm) hx
 ·rw[h.cA,h.cn a a0 a1,if_neg (by omega)];rfl
 ·rw[h.cA,h.st,if_pos rfl]
theorem QE.down {n:SNet}{U S:List Bool}{ab:List Int}{P:Int->Prop}{fl:Nat}{j p:Int}(h:QE n U S ab P fl j)(hr:FR n p j)(hn:NOk n)(hp:P p):QO n U S (gset ab j p) P fl p:=by
 have hal:=h.fb.lA.1;have j0:=h.j0;have j1:=h.j1;have hlt:=hr.lt hn;have hc:=caps_bd hn.caps;refine⟨⟨h.fb.lS,ab_set h.fb.lA (by omega),fun x x0 x1 hne hx=> ?_,h.fb.pp⟩,hr.1,hp,fun a a0 a1=> ?_,?_⟩
 ·unfold tyE;rw[nI_set j0 (by omega) x0];by_cases c:j=x
  ·rw[if_pos c];exact .inr ⟨by omega,c▸hr⟩
  ·rw[if_neg c];exact h.fb.ty x x0 x1 (fun e=>c e.symm) hx
 ·rw[h.cA,h.cn a a0 a1];by_cases c:p=a
  ·rw[if_pos c,if_pos c.symm]
  ·rw[if_neg c,if_neg (fun e=>c e.symm)]
 ·rw[h.cA,h.st,if_neg (by omega)];rfl
theorem QE.undo {n:SNet}{U S:List Bool}{ab:List Int}{P:Int->Prop}{fl:Nat}{j:Int}(h:QE n U S ab P fl j)(hi:IsA n j):QO n U (gset S j false) ab P fl j:=by
 have hl:=h.fb.lS;have j0:=h.j0;have j1:=h.j1;have g:∀x,0<=x->bI (gset S j false) x=if j=x then false else bI S x:=fun x hx=>bI_set j0 (by omega) hx false
 refine⟨⟨by rw[gset_len];exact hl,h.fb.lA,fun x x0 x1 hne hx=> ?_,fun x x0 x1 hx=> ?_⟩,hi,h.fb.pp j j0 j1 h.hj,fun a a0 a1=> ?_,h.st⟩
 ·rw[g x x0]at hx;split at hx
  ·cases hx
  ·rename_i c;exact h.fb.ty x x0 x1 (fun e=>c e.symm) hx
 ·rw[g x x0]at hx;split at hx
  ·cases hx
  ·exact h.fb.pp x x0 x1 hx
 ·rw[h.cn a a0 a1,vA_set hl j0 j1 false a0];by_cases c:j=a
  ·subst c;unfold vA;rw[if_pos (show firstOf n<=j/\bI S j=true from⟨hi.1,h.hj⟩),if_pos rfl,if_neg (show ¬(firstOf n<=j/\false=true)from fun e=>by cases e.2),if_pos rfl]
  ·rw[if_neg c,if_neg (fun e=>c e.symm)];rfl
structure WK (n:SNet)(U S0:List Bool)(a0:List Int)(P:Int->Prop)(q:List Int)(fl:Nat)(s:Int)(S:List Bool)(ab:List Int):Prop where
 mem:s∈q
 old:∀j,0<=j->2*j∈q->q.idxOf (2*j)<q.idxOf s->bI S j=bI S0 j/\nI ab j=nI a0 j
 st:(∃k,s=2*k+1/\(QO n U S ab P fl k\/(0<=k/\k<firstOf n/\bI S k=false/\P k/\FI n U S ab P fl)))\/(∃j,s=2*j/\QE n U S ab P fl j)
theorem WK.lens {n:SNet}{U S0:List Bool}{a0:List Int}{P:Int->Prop}{q:List Int}{fl:Nat}{s:Int}{S:List Bool}{ab:List Int}(h:WK n U S0 a0 P q fl s S ab):(S.length:Int)=nodesOf n/\AbOk n ab:=by
 rcases h.st with⟨k,_,h1 | ⟨_,_,_,_,h1⟩⟩ | ⟨j,_,h1⟩
 ·exact⟨h1.fb.lS,h1.fb.lA⟩
 ·exact⟨h1.fb.lS,h1.fb.lA⟩
 ·exact⟨h1.fb.lS,h1.fb.lA⟩
def WN (n:SNet)(U S0:List Bool)(a0:List Int)(P:Int->Prop)(q:List Int)(fl:Nat)(s:Int)(S:List Bool)(ab:List Int):Prop:=(s= -1/\FI n U S ab P (fl+1))\/WK n U S0 a0 P q fl s S ab
section
variable {n:SNet} {U S0:List Bool} {a0:List Int} {P:Int->Prop} {q b:List Int} {fl:Nat} {s:Int} {S:List Bool} {ab:List Int} {M:Nat}
theorem WK.odd (hn:NOk n)(h0:FI n U S0 a0 P fl)(hj:SJ n U S0 a0 P M b q)(h:WK n U S0 a0 P q fl s S ab)(ho:s % 2=1):(nI b s=s - 1->WN n U S0 a0 P q fl (nI b s) (gset S (s/2) true) ab)/\(nI b s≠s - 1->WN n U S0 a0 P q fl (nI b s) S ab):=by
 have hed:=hj.ed s h.mem;have hbk:=hj.si.back h.mem
 change nI b s= -1\/(nI b s∈q/\q.idxOf (nI b s)<q.idxOf s)at hbk
 have hc:=caps_bd hn.caps;obtain⟨k,hk,hst⟩:∃k,s=2*k+1/\(QO n U S ab P fl k\/(0<=k/\k<firstOf n/\bI S k=false/\P k/\FI n U S ab P fl)):=by
  rcases h.st with h1 | ⟨j,e,_⟩
  ·exact h1
  ·omega
 have hk2:s/2=k:=by omega
 have hk0:0<=k:=by have:=(hj.si.mem s h.mem).1;omega
 have selfup:∀j,bI S0 j=true->0<=j->j<nodesOf n->nI a0 j=j->False:=fun j h1 h2 h3 h4=>by
  rcases h0.fb.ty j h2 h3 (by omega) h1 with⟨e,_⟩ | ⟨_,e⟩
  ·omega
  ·have:=e.lt hn;omega
 rw[hk2];cases hed with
 | root k' x h1 h2 h3 h4 h5 h6=>omega
 | down k' x h1 h2 h3=>omega
 | undo k' h1 h2 h3 h4=>omega
 | thru k' h1 h2 h3 h4 h5=>
  have ek:k' =k:=by omega
  subst ek;rw[h1]at hbk ⊢;obtain⟨b1,b2⟩:2*k'∈q/\q.idxOf (2*k')<q.idxOf s:=by
   rcases hbk with e | e
   ·omega
   ·exact e
  refine⟨fun _=> .inr ?_,fun e=>absurd (by omega) e⟩;have hsk:bI S k' =false:=by rw[(h.old k' h3 b1 b2).1];exact h5
  have hq:QE n U (gset S k' true) ab P fl k' :=by
   rcases hst with h6 | ⟨_,c2,_,c4,c5⟩
   ·exact h6.inn hn hsk
   ·refine step_in h3 h4 hsk c4 c5.fb c5.st fun a a0 a1=> ?_
    rw[c5.cn a a0 a1,if_neg (fun e=>by omega)];rfl
  have hl:=h.lens.1;refine⟨b1,fun j j0 hjq hji=> ?_,.inr ⟨k',rfl,hq⟩⟩;have hne:¬k' =j:=fun e=>by subst e;omega
  rw[bI_set h3 (by omega) j0,if_neg hne];exact h.old j j0 hjq (by omega)
 | up j h1 h2 h3 h4 h5 h6=>
  have ek:nI a0 j=k:=by omega
  have hjk:j≠k:=fun e=>selfup j h5 h3 h4 (by omega)
  rw[h1]at hbk ⊢;obtain⟨b1,b2⟩:2*j∈q/\q.idxOf (2*j)<q.idxOf s:=by
   rcases hbk with e | e
   ·omega
   ·exact e
  refine⟨fun e=>by omega,fun _=> .inr ⟨b1,fun i i0 hiq hii=>h.old i i0 hiq (by omega),.inr ⟨j,rfl,?_⟩⟩⟩;obtain⟨o1,o2⟩:=h.old j h3 b1 b2;rcases hst with h7 | ⟨_,c2,_,c4,c5⟩
  ·exact h7.up h3 h4 (by rw[o1];exact h5) (by rw[o2];exact ek) hk0
  ·exfalso
   rcases h0.fb.ty j h3 h4 (by omega) h5 with⟨e,_⟩ | ⟨_,e⟩
   ·omega
   ·rw[ek]at e;have:=e.lt hn;omega
theorem WK.even (hn:NOk n)(h0:FI n U S0 a0 P fl)(hj:SJ n U S0 a0 P M b q)(h:WK n U S0 a0 P q fl s S ab)(ho:s % 2=0):(nI b s=s+1->WN n U S0 a0 P q fl (nI b s) (gset S (s/2) false) ab)/\(nI b s= -1->WN n U S0 a0 P q fl (nI b s) S (gset ab (s/2) (-1)))/\(nI b s≠s+1->0<=nI b s->WN n U S0 a0 P q fl (nI b s) S (gset ab (s/2) (nI b s/2)))/\(nI b s= -1\/0<=nI b s):=by
 have hed:=hj.ed s h.mem;have hbk:=hj.si.back h.mem
 change nI b s= -1\/(nI b s∈q/\q.idxOf (nI b s)<q.idxOf s)at hbk
 have hc:=caps_bd hn.caps;have hs0:=(hj.si.mem s h.mem).1;obtain⟨j,hk,hq⟩:∃j,s=2*j/\QE n U S ab P fl j:=by
  rcases h.st with⟨k,e,_⟩ | h1
  ·omega
  ·exact h1
 have hk2:s/2=j:=by omega
 have j0:=hq.j0;have j1:=hq.j1;have hl:=h.lens;rw[hk2];cases hed with
 | thru k' h1 h2 h3 h4 h5=>omega
 | up j h1 h2 h3 h4 h5 h6=>omega
 | root k' x h1 h2 h3 h4 h5 h6=>
  have ex:x=j:=by omega
  subst ex;rw[h1];exact⟨fun e=>by omega,fun _=> .inl ⟨rfl,hq.root ⟨k',h3,h4,h5,h6⟩ hn⟩,fun _ e=>by omega,.inl rfl⟩
 | down p x h1 h2 h3=>
  have ex:x=j:=by omega
  subst ex;have hlt:=h3.lt hn;rw[h1]at hbk ⊢;obtain⟨b1,b2⟩:2*p+1∈q/\q.idxOf (2*p+1)<q.idxOf s:=by
   rcases hbk with e | e
   ·omega
   ·exact e
  have hpp:=hj.pp _ b1;rw[show(2*p+1)/2=p by omega]at hpp ⊢;refine⟨fun e=>by omega,fun e=>by omega,fun _ _=> .inr ⟨b1,fun i i0 hiq hii=> ?_,.inl ⟨p,rfl,.inl (hq.down h3 hn hpp)⟩⟩,.inr (by omega)⟩;have hne:¬x=i:=fun e=>by subst e;rw[hk]at b2;omega
  have:=hl.2.1;rw[nI_set j0 (by omega) i0,if_neg hne];exact h.old i i0 hiq (by omega)
 | undo k' h1 h2 h3 h4=>
  have ex:k' =j:=by omega
  subst ex;rw[h1]at hbk ⊢;obtain⟨b1,b2⟩:2*k' +1∈q/\q.idxOf (2*k' +1)<q.idxOf s:=by
   rcases hbk with e | e
   ·omega
   ·exact e
  refine⟨fun _=> .inr ⟨b1,fun i i0 hiq hii=> ?_,.inl ⟨k',rfl,.inl (hq.undo h3)⟩⟩,fun e=>by omega,fun e=>absurd (by omega) e,.inr (by omega)⟩;have hne:¬k' =i:=fun e=>by subst e;rw[hk]at b2;omega
  rw[bI_set j0 (by omega) i0,if_neg hne];exact h.old i i0 hiq (by omega)
end
end Go.Pf
/-
  Own work. Flows, plainly: the cut that a failed search leaves is valid, and no bigger than the flow.
-/
namespace Go.Pf
open Go Go.Pu
set_option linter.unusedVariables false
theorem cA_pos {n:SNet}{S:List Bool}{ab:List Int}{k:Int}(k0:0<=k)(k1:k<nodesOf n)(hk:bI S k=true):1<=cA n S ab (nI ab k):=by
 unfold cA;refine cnt_mem (List.mem_flatMap.2 ⟨k.toNat,List.mem_range.2 (by omega),?_⟩);unfold sF;rw[show((k.toNat:Nat):Int)=k by omega,if_pos hk];simp
theorem cA_two {n:SNet}{S:List Bool}{ab:List Int}{j k:Int}(hjk:j<k)(j0:0<=j)(k1:k<nodesOf n)(hj:bI S j=true)(hk:bI S k=true)(he:nI ab j=nI ab k):2<=cA n S ab (nI ab k):=by
 unfold cA;refine cnt_two (a:=j.toNat) (b:=k.toNat) (by omega) ?_ ?_ _ (by omega)
 ·unfold sF;rw[show((j.toNat:Nat):Int)=j by omega,if_pos hj,he];simp
 ·unfold sF;rw[show((k.toNat:Nat):Int)=k by omega,if_pos hk];simp
def selL (N:Nat)(p:Int->Bool):List Int:=((List.range N).filter fun k:Nat=>p (k:Int)).map fun k:Nat=>(k:Int)
theorem selL_succ (N:Nat)(p:Int->Bool):selL (N+1) p=selL N p++if p (N:Int)=true then [(N:Int)]else []:=by
 unfold selL;rw[List.range_succ,List.filter_append,List.map_append]
 congr 1
 by_cases c:p (N:Int)=true
 ·rw[if_pos c];simp[c]
 ·rw[if_neg c];simp[c]
theorem selL_mem {N:Nat}{p:Int->Bool}{x:Int}:x∈selL N p↔(0<=x/\x<(N:Int))/\p x=true:=by
 unfold selL;rw[List.mem_map]
 constructor
 ·rintro⟨k,hk,rfl⟩
  rw[List.mem_filter]at hk;exact⟨⟨by omega,by have:=List.mem_range.1 hk.1;omega⟩,hk.2⟩
 ·rintro⟨⟨h1,h2⟩,h3⟩
  refine⟨x.toNat,List.mem_filter.2 ⟨List.mem_range.2 (by omega),?_⟩,by omega⟩;rw[show((x.toNat:Nat):Int)=x by omega];exact h3
theorem selL_asc (N:Nat)(p:Int->Bool):Asc (selL N p):=by
 induction N with
 | zero=>exact List.Pairwise.nil
 | succ N ih=>
  rw[selL_succ];split
  ·exact asc_app ih fun y hy=>by have:=selL_mem.1 hy;omega
  ·rw[List.append_nil];exact ih
theorem selL_len (S:List Bool)(ab:List Int)(a:Int):∀N,(selL N fun k=>bI S k && decide (nI ab k=a)).length=((List.range N).flatMap (sF S ab)).count a
 | 0=>rfl
 | N+1=>by
  rw[selL_succ,List.length_append,selL_len S ab a N,List.range_succ,List.flatMap_append,List.count_append]
  congr 1
  simp only[List.flatMap_cons,List.flatMap_nil,List.append_nil];unfold sF;cases bI S (N:Int)with
  | false=>simp
  | true=>
   by_cases c:nI ab (N:Int)=a
   ·simp[c]
   ·simp[c]
theorem nodup_sub:∀(xs ys:List Int),xs.Nodup->(∀x∈xs,x∈ys)->xs.length<=ys.length
 | [],_,_,_=>by simp
 | x::xs,ys,hn,h=>by
  have hx:=h x (by simp);have hnx:=List.pairwise_cons.1 hn;have h1:=nodup_sub xs (ys.erase x) hnx.2 (fun y hy=>(List.mem_erase_of_ne (fun e=>(hnx.1 y hy) e.symm)).2 (h y (by simp[hy])));have h2:=List.length_erase_of_mem hx;have h3:=List.length_pos_of_mem hx;simp only[List.length_cons];omega
theorem nodup_map {f:Int->Int}:∀(xs:List Int),xs.Nodup->(∀x∈xs,∀y∈xs,x≠y->f x≠f y)->(xs.map f).Nodup
 | [],_,_=>List.Pairwise.nil
 | x::xs,hn,h=>by
  have hnx:=List.pairwise_cons.1 hn;refine List.pairwise_cons.2 ⟨fun y hy=> ?_,nodup_map xs hnx.2 fun a ha b hb=>h a (by simp[ha]) b (by simp[hb])⟩;obtain⟨z,hz,rfl⟩:=List.mem_map.1 hy;exact h x (by simp) z (by simp[hz]) (hnx.1 z hz)
def BlP (n:SNet)(v k:Int):Prop:=Cn n v k/\1<=k/\k<v
theorem blP_closed {n:SNet}(hn:NOk n){U S:List Bool}{ab:List Int}{v:Int}{fl:Nat}(v0:0<=v)(hU:∀k,0<=k->bI U k=true->Cn n v k)(hf:FI n U S ab (BlP n v) fl):∀t s,Ed n U S ab t s->(t= -1\/BlP n v (t/2))->BlP n v (s/2):=by
 intro t s he ht;have fan:∀k x,Cn n v k->FR n k x->BlP n v x:=fun k x hk hx=>by
  have h1:=hx.lt hn;have h2:=hk.le hn v0;refine⟨hk.trans ?_,by omega,by omega⟩;obtain⟨q1,_,q3⟩:=hx;rcases q3 with rfl | rfl
  ·exact .a _ _ q1 (.r _)
  ·exact .b _ _ q1 (.r _)
 cases he with
 | root k x h1 h2 h3 h4 h5 h6=>
  rw[h2,show(2*x)/2=x by omega];exact fan k x (hU k h3 h4) h5
 | thru k h1 h2 h3 h4 h5=>
  have:t/2=s/2:=by omega
  rw[this]at ht;rcases ht with e | e
  ·omega
  ·exact e
 | up k h1 h2 h3 h4 h5 h6=>
  rw[h2,show(2*nI ab k+1)/2=nI ab k by omega];rcases hf.fb.ty k h3 h4 (by omega) h5 with⟨e,_⟩ | ⟨_,e⟩
  ·omega
  ·have hlt:=e.lt hn;have h7:=cA_pos (ab:=ab) h3 h4 h5;rw[hf.cn _ h6 hlt.2.2]at h7;unfold vA at h7;split at h7
   ·rename_i c;exact hf.fb.pp _ h6 hlt.2.2 c.2
   ·omega
 | down k x h1 h2 h3=>
  rw[h2,show(2*x)/2=x by omega];have h4:=h3.lt hn;rcases ht with e | e
  ·omega
  ·rw[h1,show(2*k+1)/2=k by omega]at e;exact fan k x e.1 h3
 | undo k h1 h2 h3 h4=>
  have:t/2=s/2:=by omega
  rw[this]at ht;unfold IsA at h3;rcases ht with e | e
  ·have:=caps_bd hn.caps;omega
  ·exact e
theorem cut_ok {n:SNet}(hn:NOk n){U S:List Bool}{ab:List Int}{v:Int}{fl M:Nat}{b q:List Int}(v0:0<=v)(v1:v<nodesOf n)(hM:(M:Int)=2*nodesOf n)(hU:∀k,0<=k->bI U k=true->Cn n v k)(hUv:bI U v=true)(hUf:∀k,0<=k->k<firstOf n->bI U k=false)(hf:FI n U S ab (BlP n v) fl)(hj:SJ n U S ab (BlP n v) M b q)(hc:Clo n U S ab b){C:List Int}(hC:∀k,k∈C↔(0<=k/\k<nodesOf n)/\nI b (2*k)≠-2/\nI b (2*k+1)= -2)(hA:Asc C)(h4:fl<=4):VC n v C/\v∉C:=by
 have hcp:=caps_bd hn.caps;have hP:∀x,0<=x->x<2*nodesOf n->nI b x≠-2->BlP n v (x/2):=fun x x0 x1 hx=>hj.pp x (hj.vis x x0 (by omega) hx)
 have hPC:∀k∈C,BlP n v k:=fun k hk=>by
  obtain⟨⟨k0,k1⟩,h1,_⟩:=(hC k).1 hk;have:=hP (2*k) (by omega) (by omega) h1
  rwa [show(2*k)/2=k by omega]at this
 have hCS:∀k∈C,bI S k=true:=fun k hk=>by
  obtain⟨⟨k0,k1⟩,h1,h2⟩:=(hC k).1 hk;cases hs:bI S k with
  | true=>rfl
  | false=>exact absurd h2 (hc.cl _ _ (.inr ⟨by omega,by omega,h1⟩) (.thru (2*k) (2*k+1) k rfl rfl k0 k1 hs))

 have hsize:C.length<=fl:=by
  let R:=selL (nodesOf n).toNat fun k=>bI S k && decide (nI b (2*k+1)≠-2)
  let St:=selL (nodesOf n).toNat fun k=>bI S k && decide (nI ab k= -1)
  have hSt:St.length=fl:=by
   have:=selL_len S ab (-1) (nodesOf n).toNat;exact this.trans hf.st
  have hR:∀k,k∈R↔(0<=k/\k<nodesOf n)/\bI S k=true/\nI b (2*k+1)≠-2:=fun k=>by
   show k∈selL _ _↔_;rw[selL_mem,show(((nodesOf n).toNat:Nat):Int)=nodesOf n by omega,Bool.and_eq_true,decide_eq_true_eq]
  have hStm:∀k,k∈St↔(0<=k/\k<nodesOf n)/\bI S k=true/\nI ab k= -1:=fun k=>by
   show k∈selL _ _↔_;rw[selL_mem,show(((nodesOf n).toNat:Nat):Int)=nodesOf n by omega,Bool.and_eq_true,decide_eq_true_eq]
  have hX:∀k∈C++R,(0<=k/\k<nodesOf n)/\bI S k=true/\nI b (2*k)≠-2:=fun k hk=>by
   rcases List.mem_append.1 hk with h | h
   ·have:=(hC k).1 h;exact⟨this.1,hCS k h,this.2.1⟩
   ·obtain⟨h1,h2,h3⟩:=(hR k).1 h;refine⟨h1,h2,hc.cl _ _ (.inr ⟨by omega,by omega,h3⟩) (.undo (2*k+1) (2*k) k rfl rfl ⟨hc.fst k h1.1 h1.2 h3,h1.2⟩ h2)⟩
  have hup:∀k∈C++R,nI ab k≠-1->(0<=nI ab k/\nI ab k<nodesOf n)/\nI ab k∈R:=fun k hk hne=>by
   obtain⟨⟨k0,k1⟩,h1,h2⟩:=hX k hk;rcases hf.fb.ty k k0 k1 (by omega) h1 with⟨e,_⟩ | ⟨e0,e⟩
   ·exact absurd e hne
   ·have hlt:=e.lt hn;refine⟨⟨e0,hlt.2.2⟩,(hR _).2 ⟨⟨e0,hlt.2.2⟩,?_,hc.cl _ _ (.inr ⟨by omega,by omega,h2⟩) (.up (2*k) (2*nI ab k+1) k rfl rfl k0 k1 h1 e0)⟩⟩;have h7:=cA_pos (ab:=ab) k0 k1 h1;rw[hf.cn _ e0 hlt.2.2]at h7;unfold vA at h7;split at h7
    ·rename_i c;exact c.2
    ·omega
  let φ:Int->Int:=fun k=>if nI ab k= -1 then k else -10 - nI ab k
  have hnd:(C++R).Nodup:=by
   refine List.pairwise_append.2 ⟨asc_nodup hA,asc_nodup (selL_asc _ _),fun x hx y hy e=> ?_⟩;subst e;exact((hR x).1 hy).2.2 ((hC x).1 hx).2.2
  have hnm:((C++R).map φ).Nodup:=nodup_map _ hnd fun x hx y hy hne=>by
   obtain⟨⟨x0,x1⟩,x2,_⟩:=hX x hx;obtain⟨⟨y0,y1⟩,y2,_⟩:=hX y hy;show(if nI ab x= -1 then x else -10 - nI ab x)≠(if nI ab y= -1 then y else -10 - nI ab y);by_cases cx:nI ab x= -1<;>by_cases cy:nI ab y= -1
   ·rw[if_pos cx,if_pos cy];exact hne
   ·rw[if_pos cx,if_neg cy];have:=(hup y hy cy).1;omega
   ·rw[if_neg cx,if_pos cy];have:=(hup x hx cx).1;omega
   ·rw[if_neg cx,if_neg cy];intro e;have he:nI ab x=nI ab y:=by omega
    have hux:=(hup x hx cx).1;have huy:=(hup y hy cy).1;have v1:∀a,vA n S a<=1:=fun a=>by unfold vA;split<;>omega
    rcases Int.lt_or_gt_of_ne hne with c | c
    ·have:=cA_two (n:=n) c x0 y1 x2 y2 he;rw[hf.cn _ huy.1 huy.2]at this;have:=v1 (nI ab y);omega
    ·have:=cA_two (n:=n) c y0 x1 y2 x2 he.symm;rw[hf.cn _ hux.1 hux.2]at this;have:=v1 (nI ab x);omega
  have hsub:∀z∈(C++R).map φ,z∈St++R.map (fun a=> -10 - a):=fun z hz=>by
   obtain⟨k,hk,rfl⟩:=List.mem_map.1 hz;obtain⟨hk1,hk2,_⟩:=hX k hk;show(if nI ab k= -1 then k else -10 - nI ab k)∈_;by_cases c:nI ab k= -1
   ·rw[if_pos c];exact List.mem_append_left _ ((hStm k).2 ⟨hk1,hk2,c⟩)
   ·rw[if_neg c];exact List.mem_append_right _ (List.mem_map.2 ⟨_,(hup k hk c).2,rfl⟩)
  have:=nodup_sub _ _ hnm hsub;simp only[List.length_map,List.length_append]at this;omega
 refine⟨⟨by omega,hA,fun x hx=> ?_,?_⟩,fun hx=> ?_⟩
 ·have:=hPC x hx;exact⟨by have:=this.2;omega,this.1⟩
 ·
  have key:∀m:Nat,∀k:Int,0<=k->k<nodesOf n->k.toNat<m->(bI U k=true\/nI b (2*k)≠-2)->Cv n C k:=fun m=>by
   induction m with
   | zero=>intro k _ _ h;omega
   | succ m ih=>
    intro k k0 k1 hm hk;by_cases cz:k=0
    ·rw[cz];exact .z
    by_cases cC:k∈C
    ·exact .c k cC
    have sub:∀x,0<=x->x<k->(1<=x->bI U x=true\/nI b (2*x)≠-2)->Cv n C x:=fun x x0 x1 hx=>by
     by_cases c0:x=0
     ·rw[c0];exact .z
     ·exact ih x x0 (by omega) (by omega) (hx (by omega))
    by_cases cU:bI U k=true
    ·have hia:IsA n k:=⟨Decidable.byContradiction fun c=>by
      have:=hUf k k0 (by omega);rw[this]at cU;exact absurd cU (by simp),k1⟩
     have hnd:=nd_at hn hia;have edge:∀x,FR n k x->bI U x=true\/nI b (2*x)≠-2:=fun x hx=>by
      cases hu:bI U x with
      | true=>exact .inl rfl
      | false=>exact .inr (hc.cl _ _ (.inl rfl) (.root (-1) (2*x) k x rfl rfl k0 cU hx hu))
     exact .a k hia (sub _ hnd.1.1 hnd.1.2 fun h1=>edge _ ⟨hia,h1,.inl rfl⟩) (sub _ hnd.2.1 hnd.2.2 fun h1=>edge _ ⟨hia,h1,.inr rfl⟩)
    ·have hr:nI b (2*k)≠-2:=by
      rcases hk with h | h
      ·exact absurd h cU
      ·exact h
     have hr1:nI b (2*k+1)≠-2:=fun e=>cC ((hC k).2 ⟨⟨k0,k1⟩,hr,e⟩)
     have hia:IsA n k:=⟨hc.fst k k0 k1 hr1,k1⟩;have hnd:=nd_at hn hia;have edge:∀x,FR n k x->bI U x=true\/nI b (2*x)≠-2:=fun x hx=> .inr (hc.cl _ _ (.inr ⟨by omega,by omega,hr1⟩) (.down (2*k+1) (2*x) k x rfl rfl hx))
     exact .a k hia (sub _ hnd.1.1 hnd.1.2 fun h1=>edge _ ⟨hia,h1,.inl rfl⟩) (sub _ hnd.2.1 hnd.2.2 fun h1=>edge _ ⟨hia,h1,.inr rfl⟩)
  exact key (v.toNat+1) v v0 v1 (by omega) (.inl hUv)
 ·have:=(hPC v hx).2;omega
theorem fi_two {n:SNet}(hn:NOk n){U S:List Bool}{ab:List Int}{P:Int->Prop}{v:Int}{fl:Nat}(hU:∀k,0<=k->bI U k=true->k=v)(hf:FI n U S ab P fl):fl<=2:=by
 have hcp:=caps_bd hn.caps;have hSt:(selL (nodesOf n).toNat fun k=>bI S k && decide (nI ab k= -1)).length=fl:=(selL_len S ab (-1) (nodesOf n).toNat).trans hf.st;rw[<-hSt];refine nodup_sub _ [ndA n v,ndB n v] (asc_nodup (selL_asc _ _)) fun x hx=> ?_
 rw[selL_mem,show(((nodesOf n).toNat:Nat):Int)=nodesOf n by omega,Bool.and_eq_true,decide_eq_true_eq]at hx;obtain⟨⟨x0,x1⟩,x2,x3⟩:=hx;rcases hf.fb.ty x x0 x1 (by omega) x2 with⟨_,j,j0,j1,j2,_⟩ | ⟨e,_⟩
 ·have:=hU j j0 j1;subst this;rcases j2.2.2 with e | e<;>simp[e]
 ·omega
end Go.Pf
/-
  Own work. Flows, plainly: least cuts, labels, depth-optimal mappings are valid.
-/
namespace Go.Pf
open Go Go.Pu
set_option linter.unusedVariables false
theorem fi_zero {n:SNet}(hn:NOk n)(U:List Bool)(P:Int->Prop){S:List Bool}{ab:List Int}(hS:S=List.replicate (nodesOf n).toNat false)(ha:ab=List.replicate (nodesOf n).toNat 0):FI n U S ab P 0:=by
 have hc:=caps_bd hn.caps;have h0:∀x,bI S x=false:=fun x=>by rw[hS];exact bI_rep _ _
 have hA:∀a,cA n S ab a=0:=fun a=>by
  unfold cA;rw[flat_ext (g:=fun _=>[]) _ fun k _=>by unfold sF;rw[h0,if_neg (by simp)]];have:∀N,((List.range N).flatMap fun _=>([]:List Int))=[]:=fun N=>by
   induction N with
   | zero=>rfl
   | succ N ih=>rw[List.range_succ,List.flatMap_append,ih];rfl
  rw[this];rfl
 refine⟨⟨by rw[hS,List.length_replicate];omega,⟨by rw[ha,List.length_replicate];omega,fun y hy=>by rw[ha]at hy;rw[List.eq_of_mem_replicate hy];omega⟩,fun k _ _ _ hk=>(by rw[h0]at hk;cases hk),fun k _ _ hk=>(by rw[h0]at hk;cases hk)⟩,fun a a0 a1=> ?_,hA _⟩;rw[hA];unfold vA;rw[h0,if_neg (fun e=>by cases e.2)]
theorem cut17_all {n:SNet}(h:NOk n)(hk:spec_NetOk n=some true){lab:List Int}(hlab:(lab.length:Int)=nodesOf n){v ht:Int}(v0:0<=v)(v1:v<nodesOf n):Tot (spec_l17Cut (n,(lab,(v,ht)))) (fun r=>(r.2=true->VC n v r.1/\v∉r.1)/\(IsA n v->(∀x,Cn n v x->x≠v->nI lab x<ht)->r.2=true)):=by
 unfold spec_l17Cut;dsimp only;have hc:=caps_bd h.caps;refine Tot.bind (cone_all h hk v0 v1) fun cone hcone=> ?_
 obtain⟨hcl,hcm⟩:=hcone;have hcr:∀x∈cone,0<=x/\x<nodesOf n:=fun x hx=>by have:=((hcm x).1 hx).le h v0;omega
 refine Tot.bindEq (nodeCount_nok h) ?_
 refine Tot.make (by omega) (by omega) (by omega) ?_
 refine Tot.lp (fun s=>(0<=s.1/\s.1<=(cone.length:Int))/\(s.2.length:Int)=nodesOf n/\∀x,0<=x->(bI s.2 x=true↔x∈cone.take s.1.toNat/\(x=v\/ht<=nI lab x))) (fun s=>((cone.length:Int) - s.1).toNat) ⟨⟨by simp only;omega,by simp only;omega⟩,by simp only[List.length_replicate];omega,fun x _=>by simp only;rw[bI_rep];simp⟩ (fun s hs=> ?_);obtain⟨i,up⟩:=s;obtain⟨⟨i0,i1⟩,hup,hpr⟩:=hs;simp only at i0 i1 hup hpr;dsimp only;refine Tot.dite (fun h1=> ?_) (fun h1=> ?_)
 ·rw[wrap_ok (z:=i+1) (by omega)];refine Tot.gin i0 h1 (Tot.get i0 h1 fun x hx hxm=> ?_);have hxr:=hcr x hxm;have stp:∀val:Bool,(val=true↔(x=v\/ht<=nI lab x))->∀y,0<=y->(bI (gset up x val) y=true↔y∈cone.take (i+1).toNat/\(y=v\/ht<=nI lab y)):=fun val hval y hy=>by
   rw[bI_set hxr.1 (by omega) hy,takec i0 h1,<-hx,List.mem_append,List.mem_singleton];by_cases c:x=y
   ·subst c;rw[if_pos rfl,hval];exact⟨fun e=>⟨.inr rfl,e⟩,fun e=>e.2⟩
   ·rw[if_neg c,hpr y hy];exact⟨fun e=>⟨.inl e.1,e.2⟩,fun e=>⟨by rcases e.1 with q | q;exact q;exact absurd q.symm c,e.2⟩⟩
  refine Tot.gin i0 h1 (Tot.get i0 h1 fun x2 hx2 _=> ?_);have e:x2=x:=by rw[hx,hx2]
  subst e;refine Tot.dite (fun hxv=> ?_) (fun hxv=> ?_)
  ·refine Tot.gin (by omega) (by omega) (Tot.get (by omega) (by omega) fun _ _ _=> ?_);exact Tot.next ⟨⟨⟨by simp only;omega,by simp only;omega⟩,by simp only[gset_len];exact hup,stp true ⟨fun _=> .inl hxv,fun _=>rfl⟩⟩,by simp only;omega⟩
  ·refine Tot.gin i0 h1 (Tot.get i0 h1 fun x3 hx3 _=> ?_);have e:x3=x2:=by rw[hx,hx3]
   subst e;refine Tot.get (by omega) (by omega) fun w hw _=> ?_
   change w=nI lab x3 at hw
   refine Tot.gin (by omega) (by omega) (Tot.get (by omega) (by omega) fun _ _ _=> ?_);exact Tot.next ⟨⟨⟨by simp only;omega,by simp only;omega⟩,by simp only[gset_len];exact hup,stp _ (by rw[decide_eq_true_eq,hw];exact⟨fun e=> .inr e,fun e=>by rcases e with e | e;exact absurd e hxv;exact e⟩)⟩,by simp only;omega⟩
 refine Tot.exit ?_
 rw[show i.toNat=cone.length by omega,List.take_length]at hpr;have hUc:∀k,0<=k->bI up k=true->Cn n v k:=fun k k0 hk=>(hcm k).1 ((hpr k k0).1 hk).1
 have hUv:bI up v=true:=(hpr v v0).2 ⟨(hcm v).2 (.r v),.inl rfl⟩;have hU1:(∀x,Cn n v x->x≠v->nI lab x<ht)->∀k,0<=k->bI up k=true->k=v:=fun hlo k k0 hk=>by
  have h2:=(hpr k k0).1 hk;rcases h2.2 with e | e
  ·exact e
  ·by_cases c:k=v
   ·exact c
   ·have:=hlo k (hUc k k0 hk) c;omega
 clear h1 i0 i1
 refine Tot.bindEq (nodeCount_nok h) ?_
 refine Tot.make (by omega) (by omega) (by omega) ?_
 refine Tot.bindEq (nodeCount_nok h) ?_
 refine Tot.make (by omega) (by omega) (by omega) ?_
 refine Tot.lp (fun i=>(0<=i/\i<=firstOf n)/\∀k,0<=k->k<i->bI up k=false) (fun i=>(firstOf n - i).toNat) ⟨⟨by omega,by omega⟩,fun k _ _=>by omega⟩ (fun j hj=> ?_);obtain⟨⟨j0,j1⟩,hjf⟩:=hj;refine Tot.bindEq (first_nok h) ?_
 refine Tot.dite (fun h1=> ?_) (fun h1=> ?_)
 ·refine Tot.gin j0 (by omega) (Tot.get j0 (by omega) fun u hu _=> ?_)
  change u=bI up j at hu
  refine Tot.ite (fun hut=>Tot.exit (Tot.ret ⟨fun e=>(by cases e),fun hia hlo=> ?_⟩)) (fun huf=> ?_)
  ·have:=hU1 hlo j j0 (by rw[<-hu];exact hut);unfold IsA at hia;omega
  ·rw[wrap_ok (z:=j+1) (by omega)];refine Tot.next ⟨⟨⟨by omega,by omega⟩,fun k k0 k1=> ?_⟩,by omega⟩;by_cases c:k=j
   ·subst c;rw[<-hu];exact huf
   ·exact hjf k k0 (by omega)
 refine Tot.exit ?_
 have hUf:∀k,0<=k->k<firstOf n->bI up k=false:=fun k k0 k1=>hjf k k0 (by omega)
 clear h1 j0 j1
 refine Tot.lp (fun s=>∃m:Nat,s.1=(m:Int)/\m<=5/\FI n up s.2.1 s.2.2 (BlP n v) m) (fun s=>(5 - s.1).toNat) ⟨0,rfl,by omega,fi_zero h up _ rfl rfl⟩ (fun s hs=> ?_);obtain⟨fl,S,ab⟩:=s;obtain⟨m,hfl,hm5,hfi⟩:=hs;simp only at hfl hfi;dsimp only;have hP:=blP_closed h v0 hUc hfi;have hlS:=hfi.fb.lS;have hlA:=hfi.fb.lA;refine Tot.dite (fun h1=> ?_) (fun h1=>Tot.exit (Tot.ret ⟨fun e=>(by cases e),fun hia hlo=> ?_⟩))
 rotate_left
 ·have:=fi_two h (hU1 hlo) hfi;omega
 refine Tot.bind (search_all h hup hlS hlA hP) fun r hr=> ?_
 obtain⟨b,at0⟩:=r;obtain⟨q,hsj,hcase⟩:=hr;simp only at hsj hcase;obtain⟨M,hM⟩:∃M:Nat,2*nodesOf n=(M:Int):=⟨(2*nodesOf n).toNat,by omega⟩;have hM2:(2*nodesOf n).toNat=M:=by omega
 rw[hM2]at hsj;have hbl:=hsj.si.len;dsimp only;refine Tot.dite (fun h2=> ?_) (fun h2=> ?_)
 ·have hclo:Clo n up S ab b:=by
   rcases hcase with⟨_,e⟩ | ⟨_,k,k0,_,e⟩
   ·exact e
   ·omega
  refine Tot.lp (fun s=>(0<=s.1/\s.1<=nodesOf n)/\(s.2.length:Int)<=s.1/\Asc s.2/\∀x,x∈s.2↔(0<=x/\x<s.1)/\nI b (2*x)≠-2/\nI b (2*x+1)= -2) (fun s=>(nodesOf n - s.1).toNat) ⟨⟨by simp only;omega,by simp only;omega⟩,by simp,asc_nil,fun x=>⟨fun hx=>(by cases hx),fun hx=>by simp only at hx;omega⟩⟩ (fun s hs=> ?_);obtain⟨k,out⟩:=s;obtain⟨⟨k0,k1⟩,ho,hoA,hom⟩:=hs;simp only at k0 k1 ho hoA hom;refine Tot.bindEq (nodeCount_nok h) ?_
  dsimp only;refine Tot.dite (fun h3=> ?_) (fun h3=> ?_)
  ·rw[wrap_ok (z:=2*k) (by omega),wrap_ok (z:=k+1) (by omega),wrap_ok (z:=2*k+1) (by omega)];have nxt:¬(nI b (2*k)≠-2/\nI b (2*k+1)= -2)->∀x,x∈out↔(0<=x/\x<k+1)/\nI b (2*x)≠-2/\nI b (2*x+1)= -2:=fun hn x=>by
    rw[hom]
    constructor
    ·exact fun e=>⟨by omega,e.2⟩
    ·intro e;refine⟨⟨e.1.1,?_⟩,e.2⟩;by_cases c:x=k
     ·subst c;exact absurd e.2 hn
     ·omega
   refine Tot.gin (by omega) (by omega) (Tot.get (by omega) (by omega) fun y hy _=> ?_)
   change y=nI b (2*k)at hy
   refine Tot.dite (fun c1=> ?_) (fun c1=> ?_)
   ·refine Tot.gin (by omega) (by omega) (Tot.get (by omega) (by omega) fun z hz _=> ?_)
    change z=nI b (2*k+1)at hz
    refine Tot.dite (fun c2=> ?_) (fun c2=> ?_)
    ·refine Tot.app (by simp only[List.length_singleton];omega) (by omega) ?_
     refine Tot.next ⟨⟨⟨by simp only;omega,by simp only;omega⟩,by simp only[List.length_append,List.length_singleton];omega,asc_app hoA fun y hy=>by have:=(hom y).1 hy;omega,fun x=> ?_⟩,by simp only;omega⟩;simp only;rw[List.mem_append,List.mem_singleton,hom]
     constructor
     ·rintro(e | rfl)
      ·exact⟨by omega,e.2⟩
      ·exact⟨by omega,by rw[<-hy];exact c1,by rw[<-hz];exact c2⟩
     ·intro e;by_cases c:x=k
      ·exact .inr c
      ·exact .inl ⟨by omega,e.2⟩
    ·exact Tot.next ⟨⟨⟨by simp only;omega,by simp only;omega⟩,by simp only;omega,hoA,nxt (fun e=>c2 (by rw[hz];exact e.2))⟩,by simp only;omega⟩
   ·exact Tot.next ⟨⟨⟨by simp only;omega,by simp only;omega⟩,by simp only;omega,hoA,nxt (fun e=>c1 (by rw[hy];exact e.1))⟩,by simp only;omega⟩
  ·have ek:k=nodesOf n:=by omega
   subst ek;exact Tot.exit (Tot.exit (Tot.ret ⟨fun _=>cut_ok h v0 v1 hM.symm hUc hUv hUf hfi hsj hclo hom hoA (by omega),fun _ _=>rfl⟩))
 ·have hst:WN n up S ab (BlP n v) q m at0 S ab:=by
   rcases hcase with⟨e,_⟩ | ⟨hmq,k,k0,kf,e⟩
   ·omega
   ·refine .inr ⟨hmq,fun _ _ _ _=>⟨rfl,rfl⟩,.inl ⟨k,e,.inr ⟨k0,kf,?_,?_,hfi⟩⟩⟩
    ·have hed:=hsj.ed at0 hmq;cases hed with
     | root k' x h1 h2 h3 h4 h5 h6=>omega
     | down k' x h1 h2 h3=>omega
     | undo k' h1 h2 h3 h4=>omega
     | thru k' h1 h2 h3 h4 h5=>
      have ek:k' =k:=by omega
      rw[<-ek];exact h5
     | up j h1 h2 h3 h4 h5 h6=>
      exfalso
      rcases hfi.fb.ty j h3 h4 (by omega) h5 with⟨e,_⟩ | ⟨_,e⟩
      ·omega
      ·have:=e.lt h;omega
    ·have:=hsj.pp at0 hmq
     rwa [show at0/2=k by omega]at this
  refine Tot.lp (fun s=>WN n up S ab (BlP n v) q m s.1 s.2.1 s.2.2) (fun s=>if s.1<0 then 0 else q.idxOf s.1+1) hst (fun s hs=> ?_);obtain⟨at1,S1,ab1⟩:=s;simp only at hs;dsimp only;refine Tot.dite (fun h3=> ?_) (fun h3=> ?_)
  ·have hwk:WK n up S ab (BlP n v) q m at1 S1 ab1:=by
    rcases hs with⟨e,_⟩ | e
    ·omega
    ·exact e
   have har:=(hsj.si.mem at1 hwk.mem).1;have hback:=hsj.si.back hwk.mem
   change nI b at1= -1\/(nI b at1∈q/\q.idxOf (nI b at1)<q.idxOf at1)at hback
   obtain⟨hl1,hla1⟩:=hwk.lens;have hla1l:=hla1.1;refine Tot.gin h3 (by omega) (Tot.get h3 (by omega) fun fr hfr _=> ?_)
   change fr=nI b at1 at hfr
   rw[<-hfr]at hback;have hk:0<=at1/2/\at1/2<nodesOf n:=by omega
   have hfrr: -1<=fr/\fr<(M:Int):=by
    rcases hback with e | ⟨e,_⟩
    ·omega
    ·have:=(hsj.si.mem fr e).1;omega
   have hmu:(if fr<0 then 0 else q.idxOf fr+1)<(if at1<0 then 0 else q.idxOf at1+1):=by
    rw[if_neg (show ¬at1<0 by omega)];rcases hback with e | ⟨_,e⟩
    ·rw[if_pos (by omega)];omega
    ·split<;>omega
   refine Tot.div2 h3 (by omega) ?_
   by_cases hod:at1 % 2=1
   ·have hw:=hwk.odd h hfi hsj hod;rw[<-hfr]at hw;refine Tot.join (A:=fun a:List Bool=>WN n up S ab (BlP n v) q m fr a ab1) ?_ fun S2 hS2=> ?_
    ·refine Tot.rem h3 (by omega) ?_
     refine Tot.dite (fun _=> ?_) (fun e=>absurd hod e);rw[wrap_ok (z:=at1 - 1) (by omega)];refine Tot.dite (fun c1=> ?_) (fun c1=>Tot.next (hw.2 c1));refine Tot.gin hk.1 (by omega) (Tot.get hk.1 (by omega) fun _ _ _=> ?_);exact Tot.next (hw.1 c1)
    refine Tot.join (A:=fun a:List Bool=>a=S2) ?_ fun S3 hS3=> ?_
    ·refine Tot.rem h3 (by omega) ?_
     exact Tot.dite (fun e=>by omega) (fun _=>Tot.next rfl)
    subst hS3;refine Tot.join (A:=fun a:List Int=>a=ab1) ?_ fun ab2 hab2=> ?_
    ·refine Tot.rem h3 (by omega) ?_
     exact Tot.dite (fun e=>by omega) (fun _=>Tot.next rfl)
    subst hab2;refine Tot.rem h3 (by omega) ?_
    exact Tot.dite (fun e=>by omega) (fun _=>Tot.next ⟨hS2,hmu⟩)
   ·have hev:at1 % 2=0:=by omega
    have hw:=hwk.even h hfi hsj hev;rw[<-hfr]at hw;obtain⟨w1,w2,w3,w4⟩:=hw;refine Tot.join (A:=fun a:List Bool=>a=S1) ?_ fun S2 hS2=> ?_
    ·refine Tot.rem h3 (by omega) ?_
     exact Tot.dite (fun e=>by omega) (fun _=>Tot.next rfl)
    subst hS2;rw[wrap_ok (z:=at1+1) (by omega)];by_cases c1:fr=at1+1
    ·refine Tot.join (A:=fun a:List Bool=>a=gset S2 (at1/2) false) ?_ fun S3 hS3=> ?_
     ·refine Tot.rem h3 (by omega) ?_
      refine Tot.dite (fun _=> ?_) (fun e=>absurd hev e);refine Tot.dite (fun _=> ?_) (fun e=>absurd c1 e);refine Tot.gin hk.1 (by omega) (Tot.get hk.1 (by omega) fun _ _ _=> ?_);exact Tot.next rfl
     subst hS3;refine Tot.join (A:=fun a:List Int=>a=ab1) ?_ fun ab2 hab2=> ?_
     ·refine Tot.rem h3 (by omega) ?_
      refine Tot.dite (fun _=> ?_) (fun e=>absurd hev e);exact Tot.dite (fun e=>by omega) (fun _=>Tot.next rfl)
     subst hab2;refine Tot.rem h3 (by omega) ?_
     refine Tot.dite (fun _=> ?_) (fun e=>absurd hev e);refine Tot.dite (fun _=> ?_) (fun e=>by omega);exact Tot.dite (fun e=>absurd c1 e) (fun _=>Tot.next ⟨w1 c1,hmu⟩)
    ·refine Tot.join (A:=fun a:List Bool=>a=S2) ?_ fun S3 hS3=> ?_
     ·refine Tot.rem h3 (by omega) ?_
      refine Tot.dite (fun _=> ?_) (fun e=>absurd hev e);exact Tot.dite (fun e=>absurd e c1) (fun _=>Tot.next rfl)
     subst hS3;by_cases c2:fr= -1
     ·refine Tot.join (A:=fun a:List Int=>a=gset ab1 (at1/2) (-1)) ?_ fun ab2 hab2=> ?_
      ·refine Tot.rem h3 (by omega) ?_
       refine Tot.dite (fun _=> ?_) (fun e=>absurd hev e);refine Tot.dite (fun _=> ?_) (fun e=>absurd c2 e);refine Tot.gin hk.1 (by omega) (Tot.get hk.1 (by omega) fun _ _ _=> ?_);exact Tot.next rfl
      subst hab2;refine Tot.rem h3 (by omega) ?_
      refine Tot.dite (fun _=> ?_) (fun e=>absurd hev e);exact Tot.dite (fun e=>by omega) (fun _=>Tot.next ⟨w2 c2,hmu⟩)
     ·have c3:0<=fr:=by omega
      refine Tot.join (A:=fun a:List Int=>a=ab1) ?_ fun ab2 hab2=> ?_
      ·refine Tot.rem h3 (by omega) ?_
       refine Tot.dite (fun _=> ?_) (fun e=>absurd hev e);exact Tot.dite (fun e=>absurd e c2) (fun _=>Tot.next rfl)
      subst hab2;refine Tot.rem h3 (by omega) ?_
      refine Tot.dite (fun _=> ?_) (fun e=>absurd hev e);refine Tot.dite (fun _=> ?_) (fun e=>absurd c3 e);refine Tot.dite (fun _=> ?_) (fun e=>absurd c1 e);refine Tot.div2 c3 (by omega) ?_
      refine Tot.gin hk.1 (by omega) (Tot.get hk.1 (by omega) fun _ _ _=> ?_);exact Tot.next ⟨w3 c1 c3,hmu⟩
  ·refine Tot.exit ?_
   have hfin:FI n up S1 ab1 (BlP n v) (m+1):=by
    rcases hs with⟨_,e⟩ | e
    ·exact e
    ·have:=(hsj.si.mem at1 e.mem).1;omega
   rw[wrap_ok (z:=fl+1) (by omega)];exact Tot.next ⟨⟨m+1,by simp only;omega,by omega,hfin⟩,by simp only;omega⟩
theorem loop_congr {σ ω:Type}{f g:σ->Option (σ⊕ω)}(I:σ->Prop)(μ:σ->Nat)(h:∀s,I s->(∃s',f s=some (.inl s')/\g s=some (.inl s')/\I s'∧μ s' <μ s)\/(f s=g s/\∀s',f s≠some (.inl s'))):∀s,I s->loop f s=loop g s:=by
 have key:∀n s,μ s<n->I s->loop f s=loop g s:=by
  intro n
  induction n with
  | zero=>intro s hs;omega
  | succ n ih=>
   intro s hs hi;rcases h s hi with⟨s',h1,h2,h3,h4⟩ | ⟨h1,h2⟩
   ·rw[loop_inl h1,loop_inl h2];exact ih s' (by omega) h3
   ·rw[loop_eq,loop_eq (f:=g),<-h1];cases hf:f s with
    | none=>rfl
    | some o=>
     cases o with
     | inl s' =>exact absurd hf (h2 s')
     | inr o=>rfl
 exact fun s hi=>key _ s (Nat.lt_succ_self _) hi
theorem cut17_congr {n:SNet}(h:NOk n)(hk:spec_NetOk n=some true){l1 l2:List Int}(hl1:(l1.length:Int)=nodesOf n)(hl2:(l2.length:Int)=nodesOf n){v ht:Int}(v0:0<=v)(v1:v<nodesOf n)(he:∀x,Cn n v x->x≠v->nI l1 x=nI l2 x):spec_l17Cut (n,(l1,(v,ht)))=spec_l17Cut (n,(l2,(v,ht))):=by
 have hc:=caps_bd h.caps;obtain⟨cone,e,hcl,hcm⟩:=cone_all h hk v0 v1;have hcr:∀x∈cone,0<=x/\x<nodesOf n:=fun x hx=>by have:=((hcm x).1 hx).le h v0;omega
 unfold spec_l17Cut;dsimp only;rw[e,nodeCount_nok h];simp only[Option.bind_some];obtain⟨z,hz⟩:∃z,gmake 1 false (nodesOf n)=some z:=by
  obtain⟨o,h1,_⟩:=Tot.make (b:=1) (d:=false) (n:=nodesOf n) (k:=some) (Q:=fun _=>True) (by omega) (by omega) (by omega) (Tot.ret trivial);cases hg:gmake 1 false (nodesOf n)with
  | none=>rw[hg]at h1;cases h1
  | some z=>exact⟨z,rfl⟩
 have hzl:(z.length:Int)=nodesOf n:=by
  obtain⟨o,h1,h2⟩:=Tot.make (b:=1) (d:=false) (n:=nodesOf n) (k:=some) (Q:=fun o=>(o.length:Int)=nodesOf n) (by omega) (by omega) (by omega) (Tot.ret (by rw[List.length_replicate];omega));rw[hz]at h1;cases h1;exact h2
 rw[hz];simp only[Option.bind_some];refine loop_congr (fun s=>(0<=s.1/\s.1<=(cone.length:Int))/\(s.2.length:Int)=nodesOf n) (fun s=>((cone.length:Int) - s.1).toNat) (fun s hs=> ?_) _ ⟨⟨by simp only;omega,by simp only;omega⟩,hzl⟩;obtain⟨i,up⟩:=s;obtain⟨⟨i0,i1⟩,hup⟩:=hs;simp only at i0 i1 hup;dsimp only;by_cases h1:i<(cone.length:Int)
 ·left
  have hxm:cone.getD i.toNat 0∈cone:=getD_mem (by omega);have hxr:=hcr _ hxm;rw[dt h1,cond_true,gin_some i0 h1,gget_some i0 h1];generalize hx:cone.getD i.toNat 0=x at*;have hsl:∀w,(gset up x w).length=up.length:=fun w=>gset_len _ _ _
  simp only[Option.bind_some];by_cases hxv:x=v
  ·rw[dt hxv,cond_true,cond_true,gin_some hxr.1 (by omega),gget_some hxr.1 (by omega)];simp only[Option.bind_some];rw[wrap_ok (z:=i+1) (by omega)];exact⟨_,rfl,rfl,⟨⟨by simp only;omega,by simp only;omega⟩,by simp only[gset_len];exact hup⟩,by simp only;omega⟩
  ·have hee:=he x ((hcm x).1 hxm) hxv;unfold nI at hee;rw[df hxv,cond_false,cond_false,gget_some (xs:=l1) hxr.1 (by omega),gget_some (xs:=l2) hxr.1 (by omega),hee,gin_some hxr.1 (by omega),gget_some (xs:=up) hxr.1 (by omega)];simp only[Option.bind_some];rw[wrap_ok (z:=i+1) (by omega)];exact⟨_,rfl,rfl,⟨⟨by simp only;omega,by simp only;omega⟩,by simp only[gset_len];exact hup⟩,by simp only;omega⟩
 ·right
  rw[df h1,cond_false,cond_false];refine⟨rfl,fun s' e=> ?_⟩;rw[Option.map_eq_some_iff]at e;obtain⟨_,_,e⟩:=e;cases e
end Go.Pf
/-
  Own work. Draws, plainly: labels; mappings are valid; drawn LUT networks have inputs.
-/
namespace Go.Pf
open Go Go.Pu
set_option linter.unusedVariables false
def mxI (a b:Int):Int:=if a<b then b else a
def pLb (n:SNet)(lab:List Int)(k:Int):Int:=mxI (nI lab (ndA n k)) (nI lab (ndB n k))
def LbP (n:SNet)(lab:List Int)(m:Int):Prop:=∀k,IsA n k->k<m->nI lab k=pLb n lab k+1\/(nI lab k=pLb n lab k/\∃c,spec_l17Cut (n,(lab,(k,pLb n lab k)))=some (c,true))
theorem pLb_same {n:SNet}(h:NOk n){l1 l2:List Int}{k:Int}(hk:IsA n k)(he:∀x,0<=x->x<k->nI l1 x=nI l2 x):pLb n l1 k=pLb n l2 k:=by
 have hnd:=nd_at h hk;unfold pLb;rw[he _ hnd.1.1 hnd.1.2,he _ hnd.2.1 hnd.2.2]
theorem lb_keep {n:SNet}(h:NOk n)(hk:spec_NetOk n=some true){l1 l2:List Int}(hl1:(l1.length:Int)=nodesOf n)(hl2:(l2.length:Int)=nodesOf n){m:Int}(he:∀x,0<=x->x<m->nI l1 x=nI l2 x)(hm:LbP n l1 m):LbP n l2 m:=fun k hka hkm=>by
 have hc:=caps_bd h.caps;have hk0:0<=k/\k<nodesOf n:=by unfold IsA at hka;omega
 have hp:=pLb_same h hka (l1:=l1) (l2:=l2) fun x x0 x1=>he x x0 (by omega)
 rw[<-hp,<-he k hk0.1 hkm];rcases hm k hka hkm with e | ⟨e,c,hcut⟩
 ·exact .inl e
 ·refine .inr ⟨e,c,?_⟩;rw[<-hcut];exact(cut17_congr h hk hl1 hl2 hk0.1 hk0.2 fun x hx hne=>he x (hx.le h hk0.1).1 (by have:=(hx.le h hk0.1).2;omega)).symm
theorem labels_all {n:SNet}(h:NOk n)(hk:spec_NetOk n=some true):Tot (spec_Labels n) (fun r=>(r.length:Int)=nodesOf n/\LbP n r (nodesOf n)):=by
 unfold spec_Labels;have hc:=caps_bd h.caps;refine Tot.bindEq hk ?_
 dsimp only;refine Tot.nite (fun e=>by cases e) (fun _=> ?_);refine Tot.bindEq (nodeCount_nok h) ?_
 refine Tot.make (by omega) (by omega) (by omega) ?_
 refine Tot.bindEq (first_nok h) ?_
 refine Tot.lp (fun s=>(firstOf n<=s.1/\s.1<=nodesOf n)/\(s.2.length:Int)=nodesOf n/\(∀x,0<=x->x<nodesOf n->0<=nI s.2 x/\nI s.2 x<=x)/\LbP n s.2 s.1) (fun s=>(nodesOf n - s.1).toNat) ⟨⟨by simp only;omega,by simp only;omega⟩,by simp only[List.length_replicate];omega,fun x x0 x1=> ?_,fun k hk1 hk2=>by unfold IsA at hk1;simp only at hk2;omega⟩ (fun s hs=> ?_)
 ·have e:nI (List.replicate (nodesOf n).toNat 0) x=0:=by
   unfold nI;rw[List.getD,List.getElem?_replicate,if_pos (by omega)];rfl
  simp only;rw[e];omega
 obtain⟨k,lb⟩:=s;obtain⟨⟨k0,k1⟩,hl,hbd,hlb⟩:=hs;simp only at k0 k1 hl hbd hlb;refine Tot.bindEq (nodeCount_nok h) ?_
 dsimp only;refine Tot.dite (fun h1=> ?_) (fun h1=> ?_)
 rotate_left
 ·have e:k=nodesOf n:=by omega
  subst e;exact Tot.exit (Tot.ret ⟨hl,hlb⟩)
 refine Tot.bindEq (first_nok h) ?_
 rw[wrap_ok (z:=k - firstOf n) (by omega),wrap_ok (z:=k+1) (by omega)];have hia:IsA n k:=⟨k0,h1⟩;have hnd:=nd_at h hia;refine Tot.get (by omega) (by omega) fun a ha _=> ?_
 have hlit:=and_at h (show 0<=k - firstOf n by omega) (by omega);rw[<-ha]at hlit;unfold Lit at hlit;have eA:ndA n k=a.1/2:=by unfold ndA;rw[<-ha]
 have eB:ndB n k=a.2/2:=by unfold ndB;rw[<-ha]
 refine Tot.div2 (by omega) (by omega) ?_
 refine Tot.gin (by omega) (by omega) (Tot.get (by omega) (by omega) fun x hx _=> ?_);refine Tot.div2 (by omega) (by omega) ?_
 refine Tot.gin (by omega) (by omega) (Tot.get (by omega) (by omega) fun y hy _=> ?_);rw[<-eA]at hx;rw[<-eB]at hy
 change x=nI lb (ndA n k)at hx
 change y=nI lb (ndB n k)at hy
 have hbx:=hbd _ hnd.1.1 (by omega);have hby:=hbd _ hnd.2.1 (by omega)
 rw[<-hx]at hbx;rw[<-hy]at hby
 have hp:(if x<y then y else x)=pLb n lb k:=by unfold pLb mxI;rw[<-hx,<-hy]
 have hpb:0<=pLb n lb k/\pLb n lb k<k:=by rw[<-hp];split<;>omega
 rw[hp];generalize hpp:pLb n lb k=p at*;rw[wrap_ok (z:=p+1) (by omega)];refine Tot.gin (by omega) (by omega) (Tot.get (by omega) (by omega) fun _ _ _=> ?_);have g1:∀x,0<=x->nI (gset lb k (p+1)) x=if k=x then p+1 else nI lb x:=fun x hx=>nI_set (by omega) (by omega) hx _
 have hl1:((gset lb k (p+1)).length:Int)=nodesOf n:=by rw[gset_len];exact hl
 have nxt:∀l2:List Int,(l2.length:Int)=nodesOf n->(∀x,0<=x->x≠k->nI l2 x=nI lb x)->(nI l2 k=p+1\/(nI l2 k=p/\∃c,spec_l17Cut (n,(l2,(k,p)))=some (c,true)))->Tot (some (Sum.inl (k+1,l2):(Int×List Int)⊕List Int)) (SumP (fun s' =>((firstOf n<=s'.1/\s'.1<=nodesOf n)/\(s'.2.length:Int)=nodesOf n/\(∀x,0<=x->x<nodesOf n->0<=nI s'.2 x/\nI s'.2 x<=x)/\LbP n s'.2 s'.1)/\(nodesOf n - s'.1).toNat<(nodesOf n - k).toNat) (fun r=>(r.length:Int)=nodesOf n/\LbP n r (nodesOf n))):=fun l2 hl2 he hk2=>by
  refine Tot.next ⟨⟨⟨by simp only;omega,by simp only;omega⟩,hl2,fun x x0 x1=> ?_,fun j hja hjk=> ?_⟩,by simp only;omega⟩
  ·simp only;by_cases c:x=k
   ·subst c;rcases hk2 with e | ⟨e,_⟩<;>rw[e]<;>omega
   ·rw[he x x0 c];exact hbd x x0 x1
  ·simp only at hjk ⊢;by_cases c:j=k
   ·subst c;have hp2:pLb n l2 j=p:=by rw[<-hpp];exact pLb_same h hja fun x x0 x1=>he x x0 (by omega)
    rw[hp2];exact hk2
   ·exact lb_keep h hk hl hl2 (fun x x0 x1=>(he x x0 (by omega)).symm) hlb j hja (by omega)
 have e1:∀x,0<=x->x≠k->nI (gset lb k (p+1)) x=nI lb x:=fun x x0 hne=>by rw[g1 x x0,if_neg (fun e=>hne e.symm)]
 have n1:nI (gset lb k (p+1)) k=p+1:=by rw[g1 k (by omega),if_pos rfl]
 refine Tot.dite (fun _=> ?_) (fun _=>nxt _ hl1 e1 (.inl n1));obtain⟨r,hr,_⟩:=cut17_all h hk hl1 (v:=k) (ht:=p) (by omega) h1;refine Tot.bindEq hr ?_
 refine Tot.ite (fun hrt=> ?_) (fun _=>nxt _ hl1 e1 (.inl n1));refine Tot.gin (by omega) (by omega) (Tot.get (by omega) (by omega) fun _ _ _=> ?_);have g2:∀x,0<=x->nI (gset (gset lb k (p+1)) k p) x=if k=x then p else nI (gset lb k (p+1)) x:=fun x hx=>nI_set (by omega) (by omega) hx _
 have hl2:((gset (gset lb k (p+1)) k p).length:Int)=nodesOf n:=by rw[gset_len];exact hl1
 refine nxt _ hl2 (fun x x0 hne=>by rw[g2 x x0,if_neg (fun e=>hne e.symm)];exact e1 x x0 hne) (.inr ⟨by rw[g2 k (by omega),if_pos rfl],r.1,?_⟩);rw[cut17_congr h hk hl2 hl1 (by omega) h1 fun x hx hne=>by
  have:=hx.le h (show 0<=k by omega);rw[g2 x this.1,if_neg (fun e=>hne e.symm)],hr]
 cases r with
 | mk c b=>simp only at hrt;rw[hrt]
theorem mxI_le (a b:Int):a<=mxI a b/\b<=mxI a b:=by unfold mxI;split<;>omega
theorem lb_mono {n:SNet}(h:NOk n){lab:List Int}(hl:LbP n lab (nodesOf n)){k x:Int}(hx:Cn n k x):nI lab x<=nI lab k:=by
 have up:∀k,IsA n k->nI lab (ndA n k)<=nI lab k/\nI lab (ndB n k)<=nI lab k:=fun k hk=>by
  have h1:=mxI_le (nI lab (ndA n k)) (nI lab (ndB n k));have h2:pLb n lab k=mxI (nI lab (ndA n k)) (nI lab (ndB n k)):=rfl;rcases hl k hk hk.2 with e | ⟨e,_⟩<;>omega
 induction hx with
 | r k=>exact Int.le_refl _
 | a k x hk _ ih=>have:=up k hk;omega
 | b k x hk _ ih=>have:=up k hk;omega
theorem depth_all {n:SNet}(h:NOk n)(hk:spec_NetOk n=some true):Tot (spec_DepthMapping n) (MpG n):=by
 unfold spec_DepthMapping;have hc:=caps_bd h.caps;refine Tot.bindEq hk ?_
 dsimp only;refine Tot.nite (fun e=>by cases e) (fun _=> ?_);refine Tot.bind (labels_all h hk) fun lb hlb=> ?_
 obtain⟨hll,hlb⟩:=hlb;refine Tot.bindEq (first_nok h) ?_
 refine Tot.lp (fun s=>(firstOf n<=s.1/\s.1<=nodesOf n)/\(s.2.length:Int)=s.1 - firstOf n/\∀i:Int,0<=i->i<(s.2.length:Int)->VC n (firstOf n+i) (s.2.getD i.toNat [])/\(firstOf n+i)∉s.2.getD i.toNat []) (fun s=>(nodesOf n - s.1).toNat) ⟨⟨by simp only;omega,by simp only;omega⟩,by simp only[List.length_nil];omega,fun i i0 i1=>by simp at i1;omega⟩ (fun s hs=> ?_);obtain⟨k,cs⟩:=s;obtain⟨⟨k0,k1⟩,hl,hcs⟩:=hs;simp only at k0 k1 hl hcs;refine Tot.bindEq (nodeCount_nok h) ?_
 dsimp only;refine Tot.dite (fun h1=> ?_) (fun h1=>Tot.exit (Tot.ret ⟨by omega,hcs⟩));refine Tot.gin (by omega) (by omega) (Tot.get (by omega) (by omega) fun w hw _=> ?_)
 change w=nI lb k at hw
 have hia:IsA n k:=⟨k0,h1⟩;obtain⟨r,hr,hr1,hr2⟩:=cut17_all h hk hll (v:=k) (ht:=w) (by omega) h1;have hrt:r.2=true:=by
  rcases hlb k hia h1 with e | ⟨e,c,hcut⟩
  ·refine hr2 hia fun x hx hne=> ?_
   have h2:=mxI_le (nI lb (ndA n k)) (nI lb (ndB n k));have h3:pLb n lb k=mxI (nI lb (ndA n k)) (nI lb (ndB n k)):=rfl;cases hx with
   | r _=>exact absurd rfl hne
   | a _ _ _ hx=>have:=lb_mono h hlb hx;omega
   | b _ _ _ hx=>have:=lb_mono h hlb hx;omega
  ·rw[hw,e,hcut]at hr;cases hr;rfl
 obtain⟨hv1,hv2⟩:=hr1 hrt;refine Tot.bindEq hr ?_
 refine Tot.app (by simp only[List.length_singleton];omega) (by omega) ?_
 rw[wrap_ok (z:=k+1) (by omega)];refine Tot.next ⟨⟨⟨by simp only;omega,by simp only;omega⟩,by simp only[List.length_append,List.length_singleton];omega,fun i i0 i1=> ?_⟩,by simp only;omega⟩;simp only[List.length_append,List.length_singleton]at i1 ⊢;by_cases c:i=k - firstOf n
 ·have e:(cs++[r.1]).getD i.toNat []=r.1:=by
   rw[List.getD,List.getElem?_append_right (by omega),show i.toNat - cs.length=0 by omega];rfl
  rw[e,show firstOf n+i=k by omega];exact⟨hv1,hv2⟩
 ·have e:(cs++[r.1]).getD i.toNat []=cs.getD i.toNat []:=by
   rw[List.getD,List.getElem?_append_left (by omega)];rfl
  rw[e];exact hcs i i0 (by omega)
theorem toLuts_inp {n:SNet}(h:NB n){cuts:List (List Int)}(hl:∀c∈cuts,c.length<=1000)(hm:spec_MappingOk (n,cuts)=some true):Tot (spec_ToLuts (n,cuts)) (fun r=>LB r.1/\r.1.1=n.1):=by
 unfold spec_ToLuts;dsimp only;obtain⟨b,hbe,hb⟩:=mapOk_tot h hl;rw[hm]at hbe;cases hbe;refine Tot.bindEq hm ?_
 refine Tot.nite (fun e=>by cases e) (fun _=> ?_);obtain⟨hn,hlen,hcut⟩:=hb rfl;have hc:=caps_bd hn.caps;have han:=hn.an;have hsq:=hn.sq;have hot:=hn.ot;have cutAt:∀{i:Int} {c:List Int},0<=i->i<(cuts.length:Int)->c=cuts.getD i.toNat []->c.length<=4/\∀x∈c,0<=x/\x<firstOf n+i:=fun {i c} i0 i1 e=>by
  have:=hcut i.toNat (by omega);rw[<-e]at this;have e2:(i.toNat:Int)=i:=by omega
  rw[e2]at this;exact this
 refine Tot.bindEq (nodeCount_nok hn) ?_
 refine Tot.bindEq (first_nok hn) ?_
 refine Tot.make (by omega) (by omega) (by omega) ?_
 refine Tot.make (by omega) (by omega) (by omega) ?_
 refine Tot.bindEq (roots_ok h) ?_
 have hrl:(rootsOf n).length<=1001000:=roots_len h _;have hri:∀x∈rootsOf n,Lit x (nodesOf n):=fun x hx=>by
  rcases roots_mem.1 hx with q | ⟨s,hs,q⟩
  ·exact hn.outs x q
  ·exact(hn.ins s hs).2 x q
 refine Tot.lp (fun s=>(0<=s.1/\s.1<=((rootsOf n).length:Int))/\(s.2.1.length:Int)=nodesOf n/\(s.2.2.length:Int)=nodesOf n) (fun s=>(((rootsOf n).length:Int) - s.1).toNat) ⟨⟨by simp only;omega,by simp only;omega⟩,by simp only[List.length_replicate];omega,by simp only[List.length_replicate];omega⟩ (fun s hs=> ?_);obtain⟨i,pos,neg⟩:=s;obtain⟨⟨i0,i1⟩,hp,hg⟩:=hs;simp only at i0 i1 hp hg;dsimp only;refine Tot.dite (fun h1=> ?_) (fun h1=> ?_)
 ·rw[wrap_ok (z:=i+1) (by omega)];refine Tot.gin i0 h1 (Tot.get i0 h1 fun x hx hm=> ?_);have hxl:=hri x hm;unfold Lit at hxl;refine Tot.rem (by omega) (by omega) ?_
  refine Tot.dite (fun _=> ?_) (fun _=> ?_)
  ·refine Tot.gin i0 h1 (Tot.get i0 h1 fun y hy _=> ?_);have e:y=x:=by rw[hx,hy]
   subst e;refine Tot.div2 (by omega) (by omega) ?_
   refine Tot.gin (by omega) (by omega) (Tot.get (by omega) (by omega) fun _ _ _=> ?_);exact Tot.next ⟨⟨⟨by simp only;omega,by simp only;omega⟩,by simp only[gset_len];exact hp,hg⟩,by simp only;omega⟩
  ·refine Tot.gin i0 h1 (Tot.get i0 h1 fun y hy _=> ?_);have e:y=x:=by rw[hx,hy]
   subst e;refine Tot.div2 (by omega) (by omega) ?_
   refine Tot.gin (by omega) (by omega) (Tot.get (by omega) (by omega) fun _ _ _=> ?_);exact Tot.next ⟨⟨⟨by simp only;omega,by simp only;omega⟩,hp,by simp only[gset_len];exact hg⟩,by simp only;omega⟩
 refine Tot.exit ?_
 clear h1 i0 i1
 rw[wrap_ok (by omega)];refine Tot.lp (fun s=>(-1<=s.1/\s.1<(cuts.length:Int))/\(s.2.length:Int)=nodesOf n) (fun s=>(s.1+1).toNat) ⟨⟨by simp only;omega,by simp only;omega⟩,hp⟩ (fun s hs=> ?_);obtain⟨i,need⟩:=s;obtain⟨⟨i0,i1⟩,hnd⟩:=hs;simp only at i0 i1 hnd;dsimp only;refine Tot.dite (fun h1=> ?_) (fun h1=> ?_)
 ·refine Tot.join (A:=fun a:List Bool=>(a.length:Int)=nodesOf n) ?_ fun a ha=> ?_
  ·refine Tot.lp (fun s=>(0<=s.1/\s.1<=4)/\(s.2.length:Int)=nodesOf n) (fun s=>(4 - s.1).toNat) ⟨⟨by simp only;omega,by simp only;omega⟩,hnd⟩ (fun s hs=> ?_);obtain⟨k,nd⟩:=s;obtain⟨⟨k0,k1⟩,hk⟩:=hs;simp only at k0 k1 hk;dsimp only;refine Tot.get h1 i1 fun c hcd hm=> ?_
   obtain⟨hc4,hcx⟩:=cutAt h1 i1 hcd;refine Tot.dite (fun h2=> ?_) (fun h2=>Tot.exit (Tot.next hk));rw[wrap_ok (z:=firstOf n+i) (by omega),wrap_ok (z:=k+1) (by omega)];refine Tot.gin (by omega) (by omega) (Tot.get (by omega) (by omega) fun _ _ _=> ?_);have inner:Tot (((gget [] cuts i).bind fun v25=>(gget 0 v25 k).bind fun v26=>(gin nd.length v26).bind fun _=>(gget false nd v26).bind fun v28=>some (Sum.inl (k+1,gset nd v26 true):(Int×List Bool)⊕(List Bool⊕((Int×List Bool)⊕(Net×Bool))))))
    (SumP (fun s' =>((0<=s'.1/\s'.1<=4)/\(s'.2.length:Int)=nodesOf n)/\(4 - s'.1).toNat<(4 - k).toNat) (SumP (fun a:List Bool=>(a.length:Int)=nodesOf n) (SumP (fun s' =>((-1<=s'.1/\s'.1<(cuts.length:Int))/\(s'.2.length:Int)=nodesOf n)/\(s'.1+1).toNat<(i+1).toNat) (fun r=>LB r.1/\r.1.1=n.1)))):=by
    refine Tot.get h1 i1 fun c2 hc2 _=> ?_
    have e:c2=c:=by rw[hcd,hc2]
    subst e;refine Tot.get k0 h2 fun x _ hxm=> ?_
    have hx:=hcx x hxm;refine Tot.gin (by omega) (by omega) (Tot.get (by omega) (by omega) fun _ _ _=> ?_);exact Tot.next ⟨⟨⟨by simp only;omega,by simp only;omega⟩,by simp only[gset_len];exact hk⟩,by simp only;omega⟩
   refine Tot.ite (fun _=>inner) (fun _=> ?_);refine Tot.gin (by omega) (by omega) (Tot.get (by omega) (by omega) fun _ _ _=> ?_);refine Tot.ite (fun _=>inner) (fun _=>Tot.exit (Tot.next hk))
  ·rw[wrap_ok (z:=i - 1) (by omega)];exact Tot.next ⟨⟨⟨by simp only;omega,by simp only;omega⟩,ha⟩,by simp only;omega⟩
 refine Tot.exit ?_
 clear h1 i0 i1
 refine Tot.make (by omega) (by omega) (by omega) ?_
 refine Tot.lp (fun s=>(0<=s.1/\s.1<=firstOf n)/\(s.2.length:Int)=s.1) (fun s=>(firstOf n - s.1).toNat) ⟨⟨by simp only;omega,by simp only;omega⟩,by simp⟩ (fun s hs=> ?_);obtain⟨i,to⟩:=s;obtain⟨⟨i0,i1⟩,hto⟩:=hs;simp only at i0 i1 hto;dsimp only;refine Tot.dite (fun h1=> ?_) (fun h1=> ?_)
 ·refine Tot.app (by simp only[List.length_singleton];omega) (by omega) ?_
  rw[wrap_ok (z:=i+1) (by omega)];exact Tot.next ⟨⟨⟨by simp only;omega,by simp only;omega⟩,by simp only[List.length_append,List.length_singleton];omega⟩,by simp only;omega⟩
 refine Tot.exit ?_
 have hto:(to.length:Int)=firstOf n:=by omega
 clear h1 i0 i1
 refine Tot.lp (fun s=>(0<=s.1/\s.1<=(cuts.length:Int))/\(s.2.2.length:Int)=firstOf n+s.1/\(s.2.1.length:Int)<=s.1/\∀x∈s.2.1,List.length x.1<=4) (fun s=>((cuts.length:Int) - s.1).toNat) ⟨⟨by simp only;omega,by simp only;omega⟩,by simp only;omega,by simp,fun x hx=>(by cases hx)⟩ (fun s hs=> ?_);obtain⟨i,luts,to2⟩:=s;obtain⟨⟨i0,i1⟩,ht2,hll,hlx⟩:=hs;simp only at i0 i1 ht2 hll hlx;dsimp only;refine Tot.dite (fun h1=> ?_) (fun h1=> ?_)
 ·refine Tot.app (by simp only[List.length_singleton];omega) (by omega) ?_
  rw[wrap_ok (z:=firstOf n+i) (by omega),wrap_ok (z:=i+1) (by omega)];refine Tot.gin (by omega) (by omega) (Tot.get (by omega) (by omega) fun _ _ _=> ?_);refine Tot.ite (fun _=> ?_) (fun _=> ?_)
  ·refine Tot.get i0 h1 fun c hcd hm=> ?_
   obtain⟨hc4,hcx⟩:=cutAt i0 h1 hcd;refine Tot.bind (cutTable_tot h (by omega)) fun t _=> ?_
   refine Tot.get i0 h1 fun c2 hc2 _=> ?_
   have e:c2=c:=by rw[hcd,hc2]
   subst e;refine Tot.bind (nodes20_tot (by omega) (fun x hx=> ?_)) fun r hr=> ?_
   ·have:=hcx x hx;rw[List.length_append,List.length_singleton];omega
   refine Tot.app (by simp only[List.length_singleton];omega) (by omega) ?_
   refine Tot.next ⟨⟨⟨by simp only;omega,by simp only;omega⟩,by simp only[List.length_append,List.length_singleton];omega,by simp only[List.length_append,List.length_singleton];omega,fun x hx=> ?_⟩,by simp only;omega⟩;rcases List.mem_append.1 hx with hx | hx
   ·exact hlx x hx
   ·rw[List.mem_singleton.1 hx];simp only;omega
  ·exact Tot.next ⟨⟨⟨by simp only;omega,by simp only;omega⟩,by simp only[List.length_append,List.length_singleton];omega,by simp only;omega,hlx⟩,by simp only;omega⟩
 refine Tot.exit ?_
 have ht2:(to2.length:Int)=nodesOf n:=by omega
 have hll:luts.length<=300:=by omega
 clear h1 i0 i1
 refine Tot.lp (fun s=>(0<=s.1/\s.1<=nodesOf n)/\(s.2.1.length:Int)=nodesOf n/\(s.2.2.length:Int)<=300+s.1/\∀x∈s.2.2,List.length x.1<=4) (fun s=>(nodesOf n - s.1).toNat) ⟨⟨by simp only;omega,by simp only;omega⟩,by simp only[List.length_replicate];omega,by simp only;omega,hlx⟩ (fun s hs=> ?_);obtain⟨k,ng,ls⟩:=s;obtain⟨⟨k0,k1⟩,hng,hls,hlsx⟩:=hs;simp only at k0 k1 hng hls hlsx;dsimp only;refine Tot.dite (fun h1=> ?_) (fun h1=> ?_)
 ·rw[wrap_ok (z:=k+1) (by omega)];refine Tot.gin (by omega) (by omega) (Tot.get (by omega) (by omega) fun _ _ _=> ?_);refine Tot.nite (fun _=> ?_) (fun _=> ?_)
  ·exact Tot.next ⟨⟨⟨by simp only;omega,by simp only;omega⟩,hng,by simp only;omega,hlsx⟩,by simp only;omega⟩
  refine Tot.gin (by omega) (by omega) (Tot.get (by omega) (by omega) fun _ _ _=> ?_);refine Tot.dite (fun hkf=> ?_) (fun _=> ?_)
  ·rw[wrap_ok (z:=k - firstOf n) (by omega)];refine Tot.get (by omega) (by omega) fun c hcd hm=> ?_
   obtain⟨hc4,hcx⟩:=cutAt (show 0<=k - firstOf n by omega) (by omega) hcd;refine Tot.bind (cutTable_tot h (by omega)) fun t _=> ?_
   refine Tot.bind (tableNot_tot t) fun t2 _=> ?_
   refine Tot.get (by omega) (by omega) fun c2 hc2 _=> ?_
   have e:c2=c:=by rw[hcd,hc2]
   subst e;refine Tot.bind (nodes20_tot (by omega) (fun x hx=> ?_)) fun r hr=> ?_
   ·have:=hcx x hx;omega
   refine Tot.app (by simp only[List.length_singleton];omega) (by omega) ?_
   refine Tot.next ⟨⟨⟨by simp only;omega,by simp only;omega⟩,by simp only[gset_len];exact hng,by simp only[List.length_append,List.length_singleton];omega,fun x hx=> ?_⟩,by simp only;omega⟩;rcases List.mem_append.1 hx with hx | hx
   ·exact hlsx x hx
   ·rw[List.mem_singleton.1 hx];simp only;omega
  ·refine Tot.dite (fun _=> ?_) (fun _=> ?_)
   ·refine Tot.app (by simp only[List.length_singleton];omega) (by omega) ?_
    refine Tot.next ⟨⟨⟨by simp only;omega,by simp only;omega⟩,by simp only[gset_len];exact hng,by simp only[List.length_append,List.length_singleton];omega,fun x hx=> ?_⟩,by simp only;omega⟩;rcases List.mem_append.1 hx with hx | hx
    ·exact hlsx x hx
    ·rw[List.mem_singleton.1 hx];simp
   ·refine Tot.app (by simp only[List.length_singleton];omega) (by omega) ?_
    refine Tot.next ⟨⟨⟨by simp only;omega,by simp only;omega⟩,by simp only[gset_len];exact hng,by simp only[List.length_append,List.length_singleton];omega,fun x hx=> ?_⟩,by simp only;omega⟩;rcases List.mem_append.1 hx with hx | hx
    ·exact hlsx x hx
    ·rw[List.mem_singleton.1 hx];simp
 refine Tot.exit ?_
 have hls:ls.length<=700:=by omega
 clear h1 k0 k1
 refine Tot.lp (fun s=>(0<=s.1/\s.1<=(n.2.1.length:Int))/\(s.2.length:Int)<=s.1/\∀x∈s.2,List.length x.2.2<=4) (fun s=>((n.2.1.length:Int) - s.1).toNat) ⟨⟨by simp only;omega,by simp only;omega⟩,by simp,fun x hx=>(by cases hx)⟩ (fun s hs=> ?_);obtain⟨i,sq⟩:=s;obtain⟨⟨i0,i1⟩,hl2,hx2⟩:=hs;simp only at i0 i1 hl2 hx2;dsimp only;refine Tot.dite (fun h1=> ?_) (fun h1=> ?_)
 ·refine Tot.get i0 h1 fun a _ _=> ?_
  refine Tot.get i0 h1 fun b2 _ _=> ?_
  refine Tot.get i0 h1 fun y _ hym=> ?_
  have hyi:=hn.ins y hym;refine Tot.bind (roots20_tot (by omega) ht2 hng hyi.2 (by omega)) fun r hr=> ?_
  refine Tot.app (by simp only[List.length_singleton];omega) (by omega) ?_
  rw[wrap_ok (z:=i+1) (by omega)];refine Tot.next ⟨⟨⟨by simp only;omega,by simp only;omega⟩,by simp only[List.length_append,List.length_singleton];omega,fun x hx=> ?_⟩,by simp only;omega⟩;rcases List.mem_append.1 hx with hx | hx
  ·exact hx2 x hx
  ·rw[List.mem_singleton.1 hx];simp only;omega
 refine Tot.exit ?_
 refine Tot.bind (roots20_tot (by omega) ht2 hng hn.outs (by omega)) fun r hr=> ?_
 exact Tot.ret ⟨⟨by simp only;omega,fun s hs=>by have:=hx2 s hs;omega,by simp only;omega,fun x hx=>by have:=hlsx x hx;omega,by simp only;omega⟩,rfl⟩
theorem net20_inp {b:List Int}{c:Cur}(hb:CdOk b)(hc:CurOk b c):Tot (spec_l20Net (b,c)) (fun r=>LB r.1/\CurOk b r.2/\1<=r.1.1):=by
 unfold spec_l20Net;dsimp only;refine Tot.once hb hc fun t c1 hc1=> ?_
 refine Tot.ite (fun _=> ?_) (fun _=> ?_)
 ·refine Tot.bind (sized_valid hb hc1 (by omega) (by omega) (by omega)) fun r hr=> ?_
  obtain⟨hv0,hc2,hi0⟩:=hr;refine Tot.bind (hash_valid hv0) fun n hn=> ?_
  obtain⟨hv,hin⟩:=hn;have hk:=netOk_true hv;refine Tot.bind (cuts18_all hb hc2 hv.1 hk (depth_all hv.1 hk)) fun cs hcs=> ?_
  obtain⟨⟨hl,hm⟩,hc3⟩:=hcs;refine Tot.bind (toLuts_inp hv.1.nb (fun c hc=> ?_) (mapOk_true hv.1 hk hl hm)) fun l hl2=> ?_
  ·obtain⟨i,hi,rfl⟩:=List.getElem_of_mem hc;have:=(hm (i:Int) (by omega) (by omega)).1.len;rw[Int.toNat_natCast,List.getD,List.getElem?_eq_getElem hi]at this;simp only[Option.getD_some]at this;omega
  exact Tot.ret ⟨hl2.1,hc3,by simp only;rw[hl2.2,hin];exact hi0⟩
 refine Tot.bind ((sized_tot hb hc1 (by omega) (by omega) (by omega)).and (sized_valid hb hc1 (by omega) (by omega) (by omega))) fun r hr=> ?_
 obtain⟨n,c2⟩:=r;obtain⟨⟨hn,hc2⟩,_,_,hi0⟩:=hr;simp only at hn hc2 hi0;dsimp only;refine Tot.below hb hc2 fun lu c3 hc3 _ y3=> ?_
 have hlu:=y3 (by omega);obtain⟨fz,hfz⟩:∃z,spec_l08First n=some z:=⟨_,rfl⟩;refine Tot.bindEq hfz ?_
 generalize wrap .i64 (fz+lu)=nd;have hsl:=hn.sq;dsimp only;refine Tot.lp (fun s=>(0<=s.1/\s.1<=(n.2.1.length:Int))/\CurOk b (s.2.1,s.2.2.1)/\(s.2.2.2.length:Int)=s.1/\∀x∈s.2.2.2,List.length x.2.2<=1000) (fun s=>((n.2.1.length:Int) - s.1).toNat) ⟨⟨by simp only;omega,by simp only;omega⟩,hc3,by simp,fun x hx=>(by cases hx)⟩ (fun s hs=> ?_);obtain⟨i,p,q,ss⟩:=s;obtain⟨⟨i0,i1⟩,hcu,hsl2,hss⟩:=hs;simp only at i0 i1 hcu hsl2 hss;dsimp only;refine Tot.dite (fun h1=> ?_) (fun h1=> ?_)
 ·refine Tot.join (A:=fun _:Int×Int=>True) ?_ fun kd _=> ?_
  ·refine Tot.gin i0 h1 (Tot.get i0 h1 fun _ _ _=> ?_);refine Tot.gin i0 h1 (Tot.get i0 h1 fun _ _ _=> ?_);exact Tot.next trivial
  have hym:n.2.1.getD i.toNat (0,(0,[]))∈n.2.1:=getD_mem (by omega);have hyl:=(hn.ins _ hym).1;generalize hyd:n.2.1.getD i.toNat (0,(0,[]))=y at*;refine Tot.lp (fun s=>(0<=s.1/\s.1<=(y.2.2.length:Int))/\CurOk b (s.2.1,s.2.2.1)/\(s.2.2.2.length:Int)=s.1) (fun s=>((y.2.2.length:Int) - s.1).toNat) ⟨⟨by simp only;omega,by simp only;omega⟩,hcu,by simp⟩ (fun s hs=> ?_);obtain⟨k,p2,q2,is⟩:=s;obtain⟨⟨k0,k1⟩,hcu2,hil⟩:=hs;simp only at k0 k1 hcu2 hil;dsimp only;refine Tot.gin i0 h1 (Tot.get i0 h1 fun y2 hy2 _=> ?_);rw[hyd]at hy2;subst hy2;refine Tot.dite (fun h2=> ?_) (fun h2=> ?_)
  ·refine Tot.below hb hcu2 fun x c4 hc4 _ _=> ?_
   refine Tot.app (by simp only[List.length_singleton];omega) (by omega) ?_
   rw[wrap_ok (z:=k+1) (by omega)];exact Tot.next ⟨⟨⟨by simp only;omega,by simp only;omega⟩,hc4,by simp only[List.length_append,List.length_singleton];omega⟩,by simp only;omega⟩
  ·refine Tot.exit ?_
   refine Tot.app (by simp only[List.length_singleton];omega) (by omega) ?_
   rw[wrap_ok (z:=i+1) (by omega)];refine Tot.next ⟨⟨⟨by simp only;omega,by simp only;omega⟩,hcu2,by simp only[List.length_append,List.length_singleton];omega,fun x hx=> ?_⟩,by simp only;omega⟩;rcases List.mem_append.1 hx with hx | hx
   ·exact hss x hx
   ·rw[List.mem_singleton.1 hx];simp only;omega
 refine Tot.exit ?_
 have hsl3:ss.length<=1000:=by omega
 clear h1 i0 i1 hsl2
 refine Tot.lp (fun s=>(0<=s.1/\s.1<=lu)/\CurOk b (s.2.1,s.2.2.1)/\(s.2.2.2.length:Int)=s.1/\∀x∈s.2.2.2,List.length x.1<=4) (fun s=>(lu - s.1).toNat) ⟨⟨by simp only;omega,by simp only;omega⟩,hcu,by simp,fun x hx=>(by cases hx)⟩ (fun s hs=> ?_);obtain⟨i,p,q,ls⟩:=s;obtain⟨⟨i0,i1⟩,hcu,hll,hls⟩:=hs;simp only at i0 i1 hcu hll hls;dsimp only;refine Tot.dite (fun h1=> ?_) (fun h1=> ?_)
 ·refine Tot.below hb hcu fun m c4 hc4 _ y4=> ?_
  have hm:=y4 (by omega);refine Tot.lp (fun s=>(0<=s.1/\s.1<=m)/\CurOk b (s.2.1,s.2.2.1)/\(s.2.2.2.length:Int)=m - s.1) (fun s=>s.1.toNat) ⟨⟨by simp only;omega,by simp only;omega⟩,hc4,by simp⟩ (fun s hs=> ?_);obtain⟨k,p2,q2,is⟩:=s;obtain⟨⟨k0,k1⟩,hcu2,hil⟩:=hs;simp only at k0 k1 hcu2 hil;dsimp only;refine Tot.dite (fun h2=> ?_) (fun h2=> ?_)
  ·refine Tot.bindEq (show spec_l20First (n.1,(ss,(ls,([]:List Int))))=some _ from rfl) ?_
   refine Tot.bindEq (show spec_l20First (n.1,(ss,(ls,([]:List Int))))=some _ from rfl) ?_
   refine Tot.below hb hcu2 fun x c5 hc5 _ _=> ?_
   refine Tot.app (by simp only[List.length_singleton];omega) (by omega) ?_
   rw[wrap_ok (z:=k - 1) (by omega)];exact Tot.next ⟨⟨⟨by simp only;omega,by simp only;omega⟩,hc5,by simp only[List.length_append,List.length_singleton];omega⟩,by simp only;omega⟩
  ·refine Tot.exit ?_
   refine Tot.bindEq (full_cases (k:=(is.length:Int)) (by omega)) ?_
   refine Tot.below hb hcu2 fun x c5 hc5 _ _=> ?_
   refine Tot.app (by simp only[List.length_singleton];omega) (by omega) ?_
   rw[wrap_ok (z:=i+1) (by omega)];refine Tot.next ⟨⟨⟨by simp only;omega,by simp only;omega⟩,hc5,by simp only[List.length_append,List.length_singleton];omega,fun x hx=> ?_⟩,by simp only;omega⟩;rcases List.mem_append.1 hx with hx | hx
   ·exact hls x hx
   ·rw[List.mem_singleton.1 hx];simp only;omega
 refine Tot.exit ?_
 have hll3:ls.length<=1000:=by omega
 clear h1 i0 i1 hll
 refine Tot.below hb hcu fun m c4 hc4 _ y4=> ?_
 have hm:=y4 (by omega);refine Tot.lp (fun s=>(-1<=s.1/\s.1<=m)/\CurOk b (s.2.1,s.2.2.1)/\(s.2.2.2.length:Int)=m - s.1) (fun s=>(s.1+1).toNat) ⟨⟨by simp only;omega,by simp only;omega⟩,hc4,by simp⟩ (fun s hs=> ?_);obtain⟨k,p2,q2,o⟩:=s;obtain⟨⟨k0,k1⟩,hcu2,hol⟩:=hs;simp only at k0 k1 hcu2 hol;dsimp only;refine Tot.dite (fun h2=> ?_) (fun h2=> ?_)
 ·refine Tot.below hb hcu2 fun x c5 hc5 _ _=> ?_
  refine Tot.app (by simp only[List.length_singleton];omega) (by omega) ?_
  rw[wrap_ok (z:=k - 1) (by omega)];exact Tot.next ⟨⟨⟨by simp only;omega,by simp only;omega⟩,hc5,by simp only[List.length_append,List.length_singleton];omega⟩,by simp only;omega⟩
 ·refine Tot.exit (Tot.ret ⟨⟨hsl3,hss,hll3,fun x hx=> ?_,by simp only;omega⟩,hcu2,hi0⟩);have:=hls x hx;omega
theorem luts_inp {b:List Int}(hb:CdOk b):Tot (spec_DrawLuts b) (fun r=>NetB r.1/\1<=r.1.1):=by
 unfold spec_DrawLuts;obtain⟨c,hnew,hc⟩:=new_ok hb;refine Tot.bindEq hnew ?_
 refine Tot.bind (net20_inp hb hc) fun r hr=> ?_
 obtain⟨l,c1⟩:=r;obtain⟨hl,hc1,hi0⟩:=hr;simp only at hl hc1 hi0;dsimp only;have hsl:=hl.sq;refine Tot.lp (fun s=>(0<=s.1/\s.1<=(l.2.1.length:Int))/\CurOk b (s.2.1,s.2.2.1)/\(s.2.2.2.length:Int)=s.1) (fun s=>((l.2.1.length:Int) - s.1).toNat) ⟨⟨by simp only;omega,by simp only;omega⟩,hc1,by simp⟩ (fun s hs=> ?_);obtain⟨i,p,q,o⟩:=s;obtain⟨⟨i0,i1⟩,hcu,hol⟩:=hs;simp only at i0 i1 hcu hol;dsimp only;refine Tot.dite (fun h1=> ?_) (fun h1=>Tot.exit (Tot.ret ⟨hl.netB,hi0⟩));refine Tot.gin i0 h1 (Tot.get i0 h1 fun x _ _=> ?_);refine Tot.below hb hcu fun y c2 hc2 _ _=> ?_
 refine Tot.app (by simp only[List.length_singleton];omega) (by omega) ?_
 rw[wrap_ok (z:=i+1) (by omega)];exact Tot.next ⟨⟨⟨by simp only;omega,by simp only;omega⟩,hc2,by simp only[List.length_append,List.length_singleton];omega⟩,by simp only;omega⟩
end Go.Pf
/-
  Own work. FnPackKeeps, plainly.
-/
namespace Go.Pf
open Go Go.Pu
set_option linter.unusedVariables false
theorem bk_lens {n:Net}(hn:netP n=true){b:Blk}(h:bkOk n b=true):(pinN n b).length<=5/\(outN n b).length<=2/\b.2.2.length<=2:=by
 obtain⟨hln,ho,hs,hl⟩:=netP_all hn;have hitem:=bk_item h;unfold bkOk at h;rw[Bool.and_eq_true]at h;obtain⟨h1,h2⟩:=h;unfold blk0 at h2;unfold pinN outN;by_cases k0:b.1=0
 ·rw[if_neg (show ¬b.1=3 by omega)]at h2;have h2:=of_decide_eq_true h2;rw[if_pos k0,if_pos k0];exact⟨by simp,by simp,by omega⟩
 rw[if_neg k0,if_neg k0];by_cases k1:b.1=1
 ·rw[if_neg (show ¬b.1=3 by omega)]at h2;have h2:=of_decide_eq_true h2;rw[if_pos k1,if_pos k1];exact⟨by simp,by simp,by omega⟩
 rw[if_neg k1,if_neg k1];by_cases k2:b.1=2
 ·rw[if_neg (show ¬b.1=3 by omega)]at h2;have h2:=of_decide_eq_true h2;have hi:=hitem.2.2 k2;have hk:=(hs b.2.1.toNat (by omega)).1;have h3:=h2.2 k2;rw[if_pos k2,if_pos k2];refine⟨by rcases hk with q | q<;>omega,by simp,by omega⟩
 rw[if_neg k2,if_neg k2];obtain⟨k3,hls⟩:=item3 h1 k0 k1 k2;rw[if_pos k3]at h2;have h2:=of_decide_eq_true h2;have h4:=outsL_len n b.2.2 b.2.2.length;exact⟨h2.2.2,by omega,h2.2.1.2⟩
end Go.Pf
/-
  Own work. FnPackLes, plainly.
-/
namespace Go.Pf
open Go Go.Pu
set_option linter.unusedVariables false
theorem has2_ok (xs:List Int)(x:Int)(h:xs.length<=4611686018427387904):laws_has (xs,x)=some (decide (x∈xs)):=has_impl xs x h
theorem pins_asc (n:Net)(ls:List Le):Asc (pinsP n ls):=asc_insL asc_nil
theorem les_none {n:Net}{b:Blk}(h:bkOk n b=true)(h3:¬b.1=3):b.2.2.length=0:=by
 unfold bkOk at h;rw[Bool.and_eq_true]at h;have h2:=h.2;unfold blk0 at h2;rw[if_neg h3]at h2;exact(of_decide_eq_true h2).1
theorem law_FnPackLes (x:List Int)(h:InR (tS 0 (.int .u8)) x):laws_FnPackLes x=some true:=by
 unfold laws_FnPackLes;rw[big_ok];simp only[Option.bind_some];by_cases hb:1048576<(x.length:Int)
 ·rw[dt hb];rfl
 rw[df hb,cond_false];obtain⟨⟨n,st⟩,e,hn,hi0⟩:=luts_inp (b:=x) (by unfold CdOk;omega);simp only at hn hi0;rw[e];simp only[Option.bind_some];rcases pack_run2 n hn with⟨hnp,hi,hs⟩ | ⟨hnp,out,hp,hi,hs⟩
 ·rw[hi,hs];rfl
 obtain⟨hbk,hpk,hlen,hlg⟩:=pk_all hnp hp;obtain⟨hln,ho,hsq,hlt⟩:=netP_all hnp;have hvl:=lnV_le hln;rw[hi,hs];by_cases c:64<(out.length:Int)
 ·have ef:finP out=([],false):=by unfold finP;rw[if_pos c]
  rw[ef];rfl
 have ef:finP out=(out,true):=by unfold finP;rw[if_neg c]
 rw[ef];simp only[Option.bind_some];rw[Bool.not_true,cond_false,net_impl n hn,hnp];simp only[Option.bind_some];rw[Bool.not_true,cond_false];refine loop_upto out.length (fun k=>(k:Int)) (fun k hk=> ?_) ?_
 ·obtain⟨g1,g2⟩:=bk_get hk;have hb1:=hbk _ g2;obtain⟨q1,q2,q3⟩:=bk_lens hnp hb1;have hitem:itemP n (bkAt out k)=true:=by unfold bkOk at hb1;rw[Bool.and_eq_true]at hb1;exact hb1.1
  have hgin:gin out.length (k:Int)=some ():=gin_nat hk;generalize bkAt out k=b at*
  try dsimp only
  rw[dt (show(k:Int)<(out.length:Int)by omega),cond_true,hgin,g1];simp only[Option.bind_some];rw[pinNodes_impl n b hn (by omega),hnp,hitem,if_pos (show(true && true)=true from rfl)];simp only[Option.bind_some];have hpins:b.1=3->pinN n b=pinsP n b.2.2:=fun h3=>by
   unfold pinN;rw[if_neg (by omega),if_neg (by omega),if_neg (by omega)]
  generalize hpp:pinN n b=pins at*;have key:∀(X:Option (Unit⊕(Int⊕Bool))) (K:Unit->Option (Int⊕Bool)) (R:Option (Int⊕Bool)),X=some (.inl ())->K ()=R->joinO X K=R:=fun X K R h1 h2=>by rw[h1];exact h2
  refine key _ _ _ ?_ ?_
  ·by_cases h3:b.1=3
   ·have hasc:Asc pins:=by rw[hpins h3];exact pins_asc n _
    refine loop_upto (pins.length - 1) (fun j=>((j+1:Nat):Int)) (fun j hj=> ?_) ?_
    ·have hlt:=asc_at hasc (i:=((j+1:Nat):Int)) (by omega) (by omega)
     try dsimp only
     rw[dt (show((j+1:Nat):Int)<(pins.length:Int)by omega),cond_true];rw[dt h3,cond_true,gin_some (by omega) (by omega),gget_some (by omega) (by omega)];simp only[Option.bind_some];rw[wrap_ok (z:=((j+1:Nat):Int) - 1) (by omega),gin_some (by omega) (by omega),gget_some (by omega) (by omega)];simp only[Option.bind_some];rw[df (by omega),cond_false,wrap_ok (z:=((j+1:Nat):Int)+1) (by omega)];rfl
    ·try dsimp only
     rw[df (show ¬((pins.length - 1+1:Nat):Int)<(pins.length:Int)by omega),cond_false];rfl
   ·refine loop_inr ?_
    try dsimp only
    by_cases c1:(1:Int)<(pins.length:Int)
    ·rw[dt c1,cond_true];rw[df h3,cond_false];rfl
    ·rw[df c1,cond_false];rfl
  ·refine loop_upto b.2.2.length (fun j=>(j:Int)) (fun j hj=> ?_) ?_
   ·have h3:b.1=3:=Decidable.byContradiction fun h3=>by
     have:=les_none hb1 h3;omega
    have hls:=(item3 hitem (by omega) (by omega) (by omega)).2;have hle:=lesP_at hls hj;have hno:outLe n (leAt b.2.2 j)∉pins:=by
     rw[hpins h3];intro hm;refine(setP_mem.1 hm).2.2 ?_
     unfold outsL;rw[List.take_length];refine List.mem_map.2 ⟨leAt b.2.2 j,?_,rfl⟩;rw[<-le_eq hj];exact List.getElem_mem hj
    have hge:gget ((0,0):Le) b.2.2 (j:Int)=some (leAt b.2.2 j):=le_get hj;generalize leAt b.2.2 j=le at*;have hlok:lokP n le=true:=by unfold lokP;rw[hnp,Bool.true_and,dt hle]
    have hlout:lout n le=outLe n le:=by unfold lout;rw[if_pos hlok]
    have hlins:=lins_len n le
    try dsimp only
    rw[dt (show(j:Int)<(b.2.2.length:Int)by omega),cond_true,hge];simp only[Option.bind_some];rw[lok_impl n le hn,hlok];simp only[Option.bind_some];rw[Bool.not_true,cond_false,lout_impl n le hn,hlout];simp only[Option.bind_some];rw[has2_ok _ _ (by omega),df hno];simp only[Option.bind_some];rw[cond_false,lins_impl n le hn];simp only[Option.bind_some];rw[df (show ¬4<((lins n le).length:Int)by omega),cond_false];by_cases c1:0<=le.1
    ·rw[dt c1,cond_true];by_cases c2:0<=le.2
     ·obtain⟨⟨⟨_,l1⟩,_,_⟩,_,l3⟩:=hle;have hu:=(l3 c1 c2).2;have hlp:lnP n=lnV n:=by unfold lnP;rw[if_pos hln]
      have hlv:lnV n=fstP n+n.2.2.1.length:=rfl;have hl2:=hln.2.1;have hl3:=hln.2.2.1;have huc:ucP n (fstP n+le.1)=1:=by
       unfold ucP;rw[if_pos ⟨hnp,by omega,by omega⟩];exact hu
      rw[dt c2,cond_true,ln_spec n,hlp];simp only[Option.bind_some];rw[wrap_ok (z:=lnV n - (n.2.2.1.length:Int)) (by omega),show lnV n - (n.2.2.1.length:Int)=fstP n by omega,wrap_ok (z:=fstP n+le.1) (by omega),uc_impl n _ hn,huc];simp only[Option.bind_some];rw[df (show ¬(1:Int)≠1 by omega),cond_false,wrap_ok (z:=(j:Int)+1) (by omega)];rfl
     ·rw[df c2,cond_false,wrap_ok (z:=(j:Int)+1) (by omega)];rfl
    ·rw[df c1,cond_false,wrap_ok (z:=(j:Int)+1) (by omega)];rfl
   ·try dsimp only
    rw[df (show ¬(b.2.2.length:Int)<(b.2.2.length:Int)by omega),cond_false,wrap_ok (z:=(k:Int)+1) (by omega)];rfl
 ·try dsimp only
  rw[df (show ¬(out.length:Int)<(out.length:Int)by omega),cond_false,dt (by omega)];rfl
end Go.Pf
