/-
  Own work: parts PuW, PuX, PuY, PuZ, PuAa, PuAb, PuBa, PuBb, PuBc, PuBd, PuBe, PuBf of my verified compiler.
-/
import Derived.Test.YthjfdjekombkkaaGreatPu1
/-
  Own work. The head's state out of the present one.
-/
namespace Go.Pu
open Go Go.RowKit
set_option linter.unusedVariables false
set_option linter.unusedSectionVars false
mutual
theorem SC.beq_eq:∀(x y:SC),x.beq y=true->x=y
 | .v x,y,h=>by cases y<;>simp[SC.beq]at h;rw[h]
 | .s rg x,y,h=>by cases y<;>simp[SC.beq]at h;rw[h.1,h.2]
 | .nil,y,h=>by cases y<;>simp[SC.beq]at h;rfl
 | .h r,y,h=>by cases y<;>simp[SC.beq]at h;rw[h]
 | .hn r i k x,y,h=>by cases y<;>simp[SC.beq]at h;rw[h.1,h.2.1,h.2.2.1,h.2.2.2]
 | .hs r lo hi x,y,h=>by cases y<;>simp[SC.beq]at h;rw[h.1,h.2.1,h.2.2.1,h.2.2.2]
 | .tk r x,y,h=>by cases y<;>simp[SC.beq]at h;rw[h.1,h.2]
 | .rp rg cs,y,h=>by
  cases y with
  | rp rg' cs' =>simp only[SC.beq,Ai,decide_eq_true_eq]at h;rw[h.1,Z1 cs cs' h.2]
  | _=>simp[SC.beq]at h
 | .fn f cs,y,h=>by
  cases y with
  | fn f' cs' =>simp only[SC.beq,Ai,decide_eq_true_eq]at h;rw[h.1,Z1 cs cs' h.2]
  | _=>simp[SC.beq]at h
 | .gone,y,h=>by cases y<;>simp[SC.beq]at h
theorem Z1:∀(xs ys:List SC),Xj xs ys=true->xs=ys
 | [],[],_=>rfl
 | x::xs,y::ys,h=>by
  simp only[Xj,Ai]at h;rw[SC.beq_eq x y h.1,Z1 xs ys h.2]
 | [],_::_,h=>by simp[Xj]at h
 | _::_,[],h=>by simp[Xj]at h
end
theorem Kv {u:Ty}(v:V)(hu:u.leaf=true)(hv:v.t=u):(⟨u,(mkv u [v]).1⟩:V)=v:=by
 cases u with
 | int k=>obtain⟨t,x⟩:=v;simp only at hv;subst hv;rfl
 | bool=>obtain⟨t,x⟩:=v;simp only at hv;subst hv;rfl
 | sl e a=>obtain⟨t,x⟩:=v;simp only at hv;subst hv;simp[mkv]
 | mp=>obtain⟨t,x⟩:=v;simp only at hv;subst hv;simp[mkv]
 | unit=>cases hu
 | pr a b=>cases hu
theorem Ai3:∀(t:Ty) (vs:List V) (pre:List Bool) (v0:V),vs.length=t.n->v0.proj pre=⟨t,(mkv t vs).1⟩->∀(k:Nat) (p:List Bool) (u:Ty) (v:V),(Bw pre t)[k]? =some p->t.leaves[k]? =some u->vs[k]? =some v->v0.proj p=⟨u,(mkv u [v]).1⟩:=by
 intro t
 induction t with
 | pr a b iha ihb=>
  intro vs pre v0 hl hp k p u v q1 q2 q3;have la:=Ba a;have lp:=C1 a (pre++[false]);rw[Abd a b vs hl]at hp;simp only[Ty.n]at hl;simp only[Bw,Ty.leaves,List.getElem?_append,lp,la]at q1 q2;split at q1
  ·rename_i hk;rw[if_pos hk]at q2;exact iha (vs.take a.n) (pre++[false]) v0 (by simp;omega) (by rw[Fl,hp];rfl) k p u v q1 q2 (by rw[List.getElem?_take,if_pos hk];exact q3)
  ·rename_i hk;rw[if_neg hk]at q2;exact ihb (vs.drop a.n) (pre++[true]) v0 (by simp;omega) (by rw[Fl,hp];rfl) (k - a.n) p u v q1 q2 (by rw[List.getElem?_drop,show a.n+(k - a.n)=k from by omega];exact q3)
 | unit=>intro vs pre v0 hl hp k p u v q1;simp[Bw]at q1
 | _=>
  intro vs pre v0 hl hp k p u v q1 q2 q3;have hk:k=0:=by have:=(List.getElem?_eq_some_iff.1 q1).1;simp[Bw]at this;exact this
  subst hk;simp only[Bw,Ty.leaves,List.getElem?_cons_zero,Ah]at q1 q2;subst q1 q2;rw[hp];simp only[Ty.n]at hl
  match vs,hl,q3 with
  | [v'],_,q3=>simp at q3;subst q3;rfl
theorem Ap0:∀(t:Ty) (pre p:List Bool) (u:Ty),t.proj p=some u->u.leaf=true->∃k:Nat,(Bw pre t)[k]? =some (pre++p)/\t.leaves[k]? =some u:=by
 intro t
 induction t with
 | pr a b iha ihb=>
  intro pre p u h hu;cases p with
  | nil=>simp only[Ty.proj,Ah]at h;subst h;cases hu
  | cons c p=>
   cases c with
   | false=>
    simp only[Ty.proj]at h;obtain⟨k,h1,h2⟩:=iha (pre++[false]) p u h hu;have hlt:=(List.getElem?_eq_some_iff.1 h1).1;have hlt2:=(List.getElem?_eq_some_iff.1 h2).1;refine⟨k,?_,?_⟩
    ·simp only[Bw];rw[List.getElem?_append_left hlt,h1];simp
    ·simp only[Ty.leaves];rw[List.getElem?_append_left hlt2,h2]
   | true=>
    simp only[Ty.proj]at h;obtain⟨k,h1,h2⟩:=ihb (pre++[true]) p u h hu;refine⟨a.n+k,?_,?_⟩
    ·simp only[Bw];rw[List.getElem?_append_right (by rw[C1];omega),C1,show a.n+k - a.n=k from by omega,h1];simp
    ·simp only[Ty.leaves];rw[List.getElem?_append_right (by rw[Ba];omega),Ba,show a.n+k - a.n=k from by omega,h2]
 | unit=>intro pre p u h hu;cases p with
  | nil=>simp only[Ty.proj,Ah]at h;subst h;cases hu
  | cons c p=>simp[Ty.proj]at h
 | _=>intro pre p u h hu;cases p with
  | nil=>simp only[Ty.proj,Ah]at h;subst h;exact⟨0,by simp[Bw],rfl⟩
  | cons c p=>simp[Ty.proj]at h
theorem Yu {bs:Gy}:∀(ps:List (List Bool)) (xs:List At),Te bs ps=some xs->xs.length=ps.length/\∀(k:Nat) (p:List Bool),ps[k]? =some p->∃x,xs[k]? =some x/\Anj p bs=some x
 | [],xs,h=>by simp only[Te,Ah]at h;subst h;exact⟨rfl,fun k p h=>by simp at h⟩
 | p0::ps,xs,h=>by
  simp only[Te]at h;split at h
  ·rename_i x xs' h1 h2;simp only[Ah]at h;subst h;obtain⟨e1,e2⟩:=Yu ps xs' h2;refine⟨by simp[e1],fun k p hp=> ?_⟩;cases k with
   | zero=>simp only[List.getElem?_cons_zero,Ah]at hp;subst hp;exact⟨x,rfl,h1⟩
   | succ k=>simpa using e2 k p (by simpa using hp)
  ·cases h
section
variable {ts:List Ty} {ht:Ty} {ρ0 ρ1:Env} {Y:ht.den}
def BOK (ht:Ty)(Y:ht.den)(ρ:Env)(bs:Gy):Prop:=∀b∈bs,V.proj ⟨ht,Y⟩ b.1=b.2.get ρ
theorem Aya {bs:Gy}{xs:List At}{ρ:Env}(hts:ρ.map V.t=ts)(hall:bs.all (fun x=>Af7 ts ht bs x)=true)(hb:Te bs (Bw [] ht)=some xs)(hY:Y=(mkv ht (xs.map (At.get ρ))).1):BOK ht Y ρ bs:=by
 obtain⟨e1,e2⟩:=Yu _ _ hb;intro b hbm;have:=List.all_eq_true.1 hall b hbm;unfold Af7 at this;simp only[Ai,decide_eq_true_eq]at this;obtain⟨h1,h2⟩:=this;split at h2
 ·rename_i u hu;simp only[Ai,decide_eq_true_eq]at h2;obtain⟨h2,h3⟩:=h2;obtain⟨k,hk1,hk2⟩:=Ap0 ht [] b.1 u h2 h3;rw[List.nil_append]at hk1;obtain⟨x,hx1,hx2⟩:=e2 k _ hk1;rw[h1]at hx2;cases hx2;have:=Ai3 ht (xs.map (At.get ρ)) [] ⟨ht,Y⟩ (by rw[Ae,e1,C1]) (by rw[hY];rfl) k b.1 u (b.2.get ρ) hk1 hk2 (by rw[List.getElem?_map,hx1];rfl);rw[this];exact Kv _ h3 (At.ty_get hts hu)
 ·cases h2
theorem Asg (p:List Bool):At.get (ρ0++[⟨ht,Y⟩]) (.r ⟨ρ0.length,p⟩)=V.proj ⟨ht,Y⟩ p:=by
 simp[At.get,Ref.get,List.getD]
theorem At.meet_get {x y:At}{bs:Gy}(h:x.meet ρ0.length ts ht y=some bs)(hb:BOK ht Y (ρ0++ρ1) bs):x.get (ρ0++[⟨ht,Y⟩])=y.get (ρ0++ρ1):=by
 unfold At.meet at h;split at h
 ·rename_i m p;split at h
  ·rename_i hm;subst hm;split at h
   ·split at h
    ·cases h;rw[Asg];exact hb _ List.mem_cons_self
    ·cases h
   ·cases h
  ·split at h
   ·rename_i hc;obtain⟨h1,rfl⟩:=hc;rw[At.get_app (ρ:=ρ0) (ρ' :=[⟨ht,Y⟩]) (by simp[At.lt];exact h1),At.get_app (ρ:=ρ0) (ρ' :=ρ1) (by simp[At.lt];exact h1)]
   ·cases h
 ·rename_i x' hx;split at h
  ·rename_i e;subst e;cases x with
   | r q=>exact absurd rfl (hx q.n q.p)
   | _=>rfl
  ·cases h
theorem V7 {ρ:Env}{xs ys:Gy}(h:BOK ht Y ρ (xs++ys)):BOK ht Y ρ xs/\BOK ht Y ρ ys:=⟨fun b hb=>h b (List.mem_append_left _ hb),fun b hb=>h b (List.mem_append_right _ hb)⟩
theorem SC.meet_enc {c c' :SC}{bs:Gy}(h:c.meet ρ0.length ts ht c' =some bs)(hb:BOK ht Y (ρ0++ρ1) bs):c.enc (ρ0++[⟨ht,Y⟩])= .gone\/c.enc (ρ0++[⟨ht,Y⟩])=c'.enc (ρ0++ρ1):=by
 unfold SC.meet at h;split at h
 ·left;simp only[SC.enc]
 ·right;simp only[SC.enc,At.meet_get h hb]
 ·right
  split at h
  ·rename_i e;subst e;simp only[SC.enc,At.meet_get h hb]
  ·cases h
 ·right
  split at h
  ·rename_i e;subst e;simp only[SC.enc,At.meet_get h hb]
  ·cases h
 ·right
  split at h
  ·rename_i hc;simp only[Ai]at hc;have e:=SC.beq_eq _ _ hc.2;subst e;rw[SC.enc_app _ hc.1,SC.enc_app _ hc.1]
  ·cases h
theorem Tm:∀(cs cs' :List SC) (bs:Gy),Yr ρ0.length ts ht cs cs' =some bs->BOK ht Y (ρ0++ρ1) bs->cs.length=cs'.length/\∀(k:Nat) (q:C),(Ay (ρ0++[⟨ht,Y⟩]) cs)[k]? =some q->∃q',(Ay (ρ0++ρ1) cs')[k]? =some q'∧(q= .gone\/q=q')
 | [],[],bs,_,_=>⟨rfl,fun k q h=>by simp[Ay]at h⟩
 | c::cs,c' ::cs',bs,h,hb=>by
  simp only[Yr]at h;split at h
  ·rename_i a b h1 h2;cases h;obtain⟨b1,b2⟩:=V7 hb;obtain⟨e1,e2⟩:=Tm cs cs' b h2 b2;refine⟨by simp[e1],fun k q hq=> ?_⟩;cases k with
   | zero=>
    simp only[Ay,List.getElem?_cons_zero,Ah]at hq;subst hq;exact⟨_,by simp[Ay],SC.meet_enc h1 b1⟩
   | succ k=>simpa[Ay]using e2 k q (by simpa[Ay]using hq)
  ·cases h
 | [],_::_,_,h,_=>by simp[Yr]at h
 | _::_,[],_,h,_=>by simp[Yr]at h
theorem R4 {w:World}{g:G}{q q' :C}{v:Value}(h:q= .gone\/q=q')(hr:Au w g q' v):Au w g q v:=by
 rcases h with rfl | rfl
 ·exact .gone v
 ·exact hr
theorem Ash {w:World}{g:G}{cs cs' :List SC}{v:Value}(e1:cs.length=cs'.length)(e2:∀(k:Nat) (q:C),(Ay (ρ0++[⟨ht,Y⟩]) cs)[k]? =some q->∃q',(Ay (ρ0++ρ1) cs')[k]? =some q'∧(q= .gone\/q=q'))(hr:C9 w g (Ay (ρ0++ρ1) cs') v):C9 w g (Ay (ρ0++[⟨ht,Y⟩]) cs) v:=by
 obtain⟨vs,r1,r2,r3⟩:=hr;refine⟨vs,r1,by rw[r2,An,An,Ae,Ae,e1],fun k q hq=> ?_⟩;obtain⟨q',hq',hw⟩:=e2 k q hq;obtain⟨u,hu,hc⟩:=r3 k q' hq';exact⟨u,hu,R4 hw hc⟩
theorem Yv {w:World}{g:G}:∀(xs ys:List (Bool×List SC)) (bs:Gy),Tb ρ0.length ts ht xs ys=some bs->BOK ht Y (ρ0++ρ1) bs->xs.length=ys.length/\∀(k:Nat) (x:Bool×List SC),xs[k]? =some x->∃y,ys[k]? =some y/\∀v,Ah2 w g (Jy (ρ0++ρ1) y) v->Ah2 w g (Jy (ρ0++[⟨ht,Y⟩]) x) v
 | [],[],bs,_,_=>⟨rfl,fun k x h=>by simp at h⟩
 | x::xs,y::ys,bs,h,hb=>by
  simp only[Tb]at h;split at h
  ·rename_i hxy;split at h
   ·rename_i a b h1 h2;cases h;obtain⟨b1,b2⟩:=V7 hb;obtain⟨e1,e2⟩:=Yv (w:=w) (g:=g) xs ys b h2 b2;obtain⟨q1,q2⟩:=Tm _ _ _ h1 b1;refine⟨by simp[e1],fun k z hz=> ?_⟩;cases k with
    | zero=>
     simp only[List.getElem?_cons_zero,Ah]at hz;subst hz;refine⟨y,rfl,fun v hv=> ?_⟩;obtain⟨x1,x2⟩:=x;obtain⟨y1,y2⟩:=y;simp only at hxy q1 q2;subst hxy;unfold Jy at hv ⊢;cases x1 with
     | true=>exact Ash q1 q2 hv
     | false=>
      simp only[Bool.false_eq_true,if_false]at hv ⊢;cases x2 with
      | nil=>simp only[Ay];exact .gone v
      | cons c cs=>
       obtain⟨q',hq',hw⟩:=q2 0 (c.enc (ρ0++[⟨ht,Y⟩])) (by simp[Ay]);cases y2 with
       | nil=>simp[Ay]at hq'
       | cons c' cs' =>
        simp only[Ay,List.getElem?_cons_zero,Ah]at hq' hv ⊢;subst hq';exact R4 hw hv
    | succ k=>simpa using e2 k z (by simpa using hz)
   ·cases h
  ·cases h
 | [],_::_,_,h,_=>by simp[Tb]at h
 | _::_,[],_,h,_=>by simp[Tb]at h
theorem SV.meet_rep {P:Program}{w:World}{g:G}{sv sv' :SV}{bs:Gy}{v:Value}(h:sv.meet ρ0.length ts ht sv' =some bs)(hb:BOK ht Y (ρ0++ρ1) bs)(hr:Bp P w g (sv'.enc (ρ0++ρ1)) v):Bp P w g (sv.enc (ρ0++[⟨ht,Y⟩])) v:=by
 unfold SV.meet at h;split at h
 ·trivial
 ·exact R4 (SC.meet_enc h hb) hr
 ·obtain⟨e1,e2⟩:=Tm _ _ _ h hb;obtain⟨vs,r1,r2,r3⟩:=hr;refine⟨vs,r1,by rw[r2,An,An,Ae,Ae,e1],fun k q hq=> ?_⟩;obtain⟨q',hq',hw⟩:=e2 k q hq;obtain⟨u,hu,hc⟩:=r3 k q' hq';exact⟨u,hu,R4 hw hc⟩
 ·split at h
  ·rename_i hc;obtain⟨rfl,rfl,rfl,rfl,hlt⟩:=hc;simp only[SV.enc,Id hlt]at hr ⊢;exact hr
  ·cases h
 ·split at h
  ·rename_i hc;obtain⟨rfl,h2,h3⟩:=hc;have:=Z1 _ _ h2;subst this;simp only[SV.enc,Ks _ h3]at hr ⊢;exact hr
  ·cases h
 ·exact hr
 ·obtain⟨e1,e2⟩:=Yv (w:=w) (g:=g) _ _ _ h hb;obtain⟨vs,r1,r2,r3⟩:=hr;refine⟨vs,r1,by rw[r2,Ae,Ae,e1],fun k q hq=> ?_⟩;rw[List.getElem?_map,Option.map_eq_some_iff]at hq;obtain⟨x,hx,rfl⟩:=hq;obtain⟨y,hy,hh⟩:=e2 k x hx;obtain⟨u,hu,hc⟩:=r3 k (Jy _ y) (by rw[List.getElem?_map,hy];rfl);exact⟨u,hu,hh u hc⟩
 ·cases h
theorem RK.meet_rows {P:Program}{w:World}{g:G}{k k' :RK}{bs:Gy}{r:Nat}(h:k.meet ρ0.length ts ht k' =some bs)(hb:BOK ht Y (ρ0++ρ1) bs)(hr:∀p row,k'.rows (ρ0++ρ1) r p=some row->A4 P w g (r,p) row)
 {p:List (Nat×Nat)} {row:Row} (hrow:k.rows (ρ0++[⟨ht,Y⟩]) r p=some row):A4 P w g (r,p) row:=by
 unfold RK.meet at h;split at h
 ·rw[Bj]at hrow;cases hrow
 ·rename_i e xs e' ys;split at h
  ·rename_i he;subst he;obtain⟨e1,e2⟩:=Tm _ _ _ h hb;cases p with
   | cons q p=>simp[RK.rows]at hrow
   | nil=>
    simp only[RK.rows,Ah]at hrow;subst hrow;have:=hr [] _ rfl;cases this with
    | full _ _ _ _ b base n cap cs f hf=>
     have get:∀(i:Nat) (c:List C),[Ay (ρ0++[⟨ht,Y⟩]) xs][i]? =some c->i=0/\c=Ay (ρ0++[⟨ht,Y⟩]) xs:=fun i c hc=>by
      cases i with
      | zero=>cases hc;exact⟨rfl,rfl⟩
      | succ i=>cases hc
     refine .full _ _ _ _ b base n cap cs f ⟨hf.hd,hf.own,hf.heap,hf.len,hf.hcap,hf.hmax,hf.fit,hf.pos,fun i c hc=> ?_,fun i c k x h1 h2=> ?_,fun i c k x h1 h2=> ?_,fun h=>by cases h⟩
     ·obtain⟨rfl,rfl⟩:=get i c hc;have:=hf.size 0 _ rfl;rw[An,Ae]at this ⊢;rw[e1];exact this
     ·obtain⟨rfl,rfl⟩:=get i c h1;obtain⟨q',hq',_⟩:=e2 k x h2;exact hf.cell 0 _ k q' rfl hq'
     ·obtain⟨rfl,rfl⟩:=get i c h1;obtain⟨q',hq',hw⟩:=e2 k x h2;exact R4 hw (hf.rep 0 _ k q' rfl hq')
  ·cases h
 ·rename_i e b v nl inner e' b' v' nl' inner';split at h
  ·rename_i hc;obtain⟨rfl,rfl,hnl,hin⟩:=hc;have hv:=At.meet_get h hb;rcases hin with rfl | ⟨rfl,hnil⟩
   rotate_left
   ·
    have e0:((v'.get (ρ0++ρ1)).as (.sl e b):List b.den)=[]:=by
     rw[hnil];show V.as (.sl e b) ⟨.sl e b,[]⟩=[];exact V.as_self _ _
    cases p with
    | cons q p=>
     obtain⟨_,_,y,hy,_⟩:=Bl hrow;rw[hv,e0]at hy;simp at hy
    | nil=>
     rw[A6,hv,e0]at hrow;have:=hr [] _ (A6 ..);rw[e0]at this;cases hrow;cases this with
     | nil _ _ hd=>exact .nil _ _ hd
     | zero _ A hd=>
      cases nl with
      | false=>exact .zero _ A hd
      | true=>cases hnl rfl
     | full _ _ _ _ b0 base n cap cs f hf=>exact .full _ _ _ _ b0 base n cap cs f ⟨hf.hd,hf.own,hf.heap,hf.len,hf.hcap,hf.hmax,hf.fit,hf.pos,hf.size,hf.cell,hf.rep,fun h=>hf.nonil (hnl h)⟩
   cases p with
   | cons q p=>
    refine hr _ _ ?_
    obtain⟨rfl,rfl,y,hy,hs⟩:=Bl hrow;rw[hv]at hy;simp only[RK.rows];have hy' :((v'.get (ρ0++ρ1)).as (.sl e b):List b.den)[q.1]? =some y:=hy;rw[hy'];exact hs
   | nil=>
    rw[A6,hv]at hrow;have:=hr [] _ (A6 ..);cases hrow;generalize ((v'.get (ρ0++ρ1)).as (.sl e b)).mapIdx (fun i y=>Bk inner r i b y)=els at this;cases this with
    | nil _ _ hd=>exact .nil _ _ hd
    | zero _ A hd=>
     cases nl with
     | false=>exact .zero _ A hd
     | true=>cases hnl rfl
    | full _ _ _ _ b0 base n cap cs f hf=>exact .full _ _ _ _ b0 base n cap cs f ⟨hf.hd,hf.own,hf.heap,hf.len,hf.hcap,hf.hmax,hf.fit,hf.pos,hf.size,hf.cell,hf.rep,fun h=>hf.nonil (hnl h)⟩
  ·cases h
 ·have hv:=At.meet_get h hb;cases p with
  | cons q p=>simp[RK.rows]at hrow
  | nil=>
   simp only[RK.rows,hv]at hrow;exact hr [] _ hrow
 ·cases h
theorem Yw:∀(xs ys:List SV) (bs:Gy),Tc ρ0.length ts ht xs ys=some bs->BOK ht Y (ρ0++ρ1) bs->∀s,∃bs',(xs.getD s .junk).meet ρ0.length ts ht (ys.getD s .junk)=some bs'∧BOK ht Y (ρ0++ρ1) bs'
 | [],[],bs,_,_,s=>⟨[],by simp[SV.meet],fun b hb=>by simp at hb⟩
 | x::xs,y::ys,bs,h,hb,s=>by
  simp only[Tc]at h;split at h
  ·rename_i a b h1 h2;cases h;obtain⟨b1,b2⟩:=V7 hb;cases s with
   | zero=>exact⟨a,by simpa using h1,b1⟩
   | succ s=>simpa using Yw xs ys b h2 b2 s
  ·cases h
 | [],_::_,_,h,_,_=>by simp[Tc]at h
 | _::_,[],_,h,_,_=>by simp[Tc]at h
theorem Yx:∀(xs ys:List RK) (bs:Gy),Td ρ0.length ts ht xs ys=some bs->BOK ht Y (ρ0++ρ1) bs->∀s,∃bs',(xs.getD s .dead).meet ρ0.length ts ht (ys.getD s .dead)=some bs'∧BOK ht Y (ρ0++ρ1) bs'
 | [],[],bs,_,_,s=>⟨[],by simp[RK.meet],fun b hb=>by simp at hb⟩
 | x::xs,y::ys,bs,h,hb,s=>by
  simp only[Td]at h;split at h
  ·rename_i a b h1 h2;cases h;obtain⟨b1,b2⟩:=V7 hb;cases s with
   | zero=>exact⟨a,by simpa using h1,b1⟩
   | succ s=>simpa using Yx xs ys b h2 b2 s
  ·cases h
 | [],_::_,_,h,_,_=>by simp[Td]at h
 | _::_,[],_,h,_,_=>by simp[Td]at h
end
theorem Ai4 (X:Ctx):Zz X:=by
 intro H st t xs ρ0 ρ1 a w g h hi hH;unfold Ah9 at h;have hl:H.ts.getLast? =some t:=by rw[hH];simp
 rw[hl]at h;simp only at h;by_cases hc:(H.ts.take (H.ts.length - 1)=st.ts.take (H.ts.length - 1)/\H.fix=st.fix/\H.ts.length - 1<=st.ts.length/\H.dirty.isEmpty=true)
 ·rw[if_neg (fun hh=>hh hc)]at h;obtain⟨hc1,hc2,hc3,hcd⟩:=hc;have hn:H.ts.length - 1=ρ0.length:=by rw[hH];simp
  rw[hn]at h;obtain⟨g1,hi1⟩:=R3 (Ta H st) st g hi;obtain⟨t1,t2⟩:=C7 (Ta H st) st;generalize hst1:Kr (Ta H st) st=st1 at h hi1 t1 t2;generalize Anh H st1=σ at h;by_cases hr:(Ft (σ.map (·.1))=true/\Ft (σ.map (·.2))=true/\st1.fix.all (fun r=>decide (Il σ r=some r))=true)
  ·rw[if_neg (fun hh=>hh hr)]at h;obtain⟨r1,r2,r3⟩:=hr;have hi2:=hi1.rel r1 r2 H.nr (fun r hr=>by simpa using List.all_eq_true.1 r3 r hr) (fun b=>id);generalize hst2:st1.rel σ H.nr=st2 at h hi2;have hts2:(ρ0++ρ1).map V.t=st.ts:=hi.typ;split at h
   ·rename_i bs1 bs2 m1 m2;split at h
    ·cases h
    ·rename_i hall;have hall:(bs1++bs2).all (fun x=>Af7 st.ts t (bs1++bs2) x)=true:=Decidable.of_not_not hall;split at h
     ·rename_i xs' hb;simp only[Ag,Prod.mk.injEq,true_and]at h;subst h;have hbok:=Aya hts2 hall hb rfl;obtain⟨b1,b2⟩:=V7 hbok;refine⟨_,by rw[hH];simp,⟨hi2.inv.size,hi2.inv.nodef,hi2.inv.ok,fun s=> ?_,fun l row hl=> ?_⟩,fun r hr=> ?_,⟨fun b hb=>hb.elim,fun r b q hq=>by { have e0:H.dirty=[]:=by { simpa using hcd };rw[e0]at hq;cases hq }⟩⟩
      ·obtain⟨bs',q1,q2⟩:=Yw _ _ _ m1 b1 s;exact SV.meet_rep q1 q2 (hi2.inv.slot s)
      ·obtain⟨bs',q1,q2⟩:=Yx _ _ _ m2 b2 l.1;exact RK.meet_rows q1 q2 (fun p row hp=>hi2.inv.row (l.1,p) row hp) hl
      ·refine hi2.fixd r ?_
       rw[hc2,<-t2]at hr;rw[<-hst2];exact hr
     ·cases h
   ·cases h
   ·cases h
  ·rw[if_pos hr]at h;cases h
 ·rw[if_pos hc]at h;cases h
end Go.Pu
/-
  Own work. Contracts; from the body to the contract.
-/
namespace Go.Pu
open Go Go.RowKit
set_option linter.unusedVariables false
structure Pre (P:Program)(s:Sig)(x:s.p.den)(w:World)(g:G)(args:Array Value):Prop where
 size:args.size=s.ps.length
 slot:∀i,Bp P w g (((Fj s).slot i).enc [⟨s.p,x⟩]) (args.getD i undef)
 row:∀l row,((Fj s).rk l.1).rows [⟨s.p,x⟩] l.1 l.2=some row->A4 P w g l row
 S:∀b,g.S b->b<w.heap.size
 own:∀b l,g.own b=some l->b<w.heap.size/\¬g.S b
structure Azj (P:Program)(s:Sig)(y:s.r.den)(w:World)(g:G)(v:Value)(w' :World):Prop where
 chg:Chg (fun b=>∃l,g.own b=some l) w.heap.size w w'
 ghost:∃g' :G,(∀b l,g'.own b=some l->((∃l,g.own b=some l)\/w.heap.size<=b)/\b<w'.heap.size)/\(∀j,s.flags[j]? =some true->g'.hdr (j,[])=g.hdr (j,[]))/\
  Bp P w' g' (((Pp s).slot 0).enc [⟨s.r,y⟩]) v/\(∀l row,((Pp s).rk l.1).rows [⟨s.r,y⟩] l.1 l.2=some row->A4 P w' g' l row)/\
  (∀b,g'.S b->b<w'.heap.size/\(g.S b\/(∃l,g.own b=some l)\/w.heap.size<=b))/\∀b l,g'.own b=some l->¬g'.S b
structure Ja (P:Program)(s:Sig)(fn:s.p.den->Option s.r.den):Prop where
 known : ∃ F, P.funcs[s.f]? = some F ∧ (F.name == "runtime.NumGoroutine") = false ∧ F.body.isNone = false
 run:∀(x:s.p.den) (y:s.r.den) (w:World) (g:G) (args:Array Value),Pre P s x w g args->fn x=some y->Calls P s.f args w (fun e w' =>∃v,e= .returned v/\Azj P s y w g v w')
def Nh (P:Program)(ss:List Sig)(Γ:List FE):Prop:=∀s∈ss,∃fn:s.p.den->Option s.r.den,Ah3 Γ s.key=some ⟨s.key,s.p,s.r,fn⟩/\Ja P s fn
theorem Oz (m:Nat):∀(ps:List Par) (i r:Nat),(Ir m i r ps).length=ps.length
 | [],_,_=>rfl
 | p::ps,i,r=>by simp[Ir,Oz m ps]
theorem Yy:∀(ps:List Par) (r j:Nat),(ps.flatMap Par.flags)[j]? =some true->r+j∈Aic r ps
 | [],r,j,h=>by simp at h
 | p::ps,r,j,h=>by
  have hfl:p.flags.length=p.nroots:=by cases p<;>simp[Par.flags,Par.nroots]
  simp only[List.flatMap_cons,List.getElem?_append,hfl]at h;simp only[Aic,List.mem_append];split at h
  ·rename_i hj
   left
   cases p with
   | own agg t io=>
    cases io with
    | true=>simp only[Par.nroots]at hj;simp[List.mem_range'_1];omega
    | false=>simp only[Par.flags,List.getElem?_replicate]at h;split at h<;>simp at h
   | iob e t=>simp only[Par.nroots]at hj;simp[List.mem_range'_1];omega
   | tok e t=>
    simp only[Par.nroots]at hj;have:j=0:=by omega
    subst this;simp
   | _=>simp[Par.nroots]at hj
  ·rename_i hj
   right
   have:=Yy ps (r+p.nroots) (j - p.nroots) h
   rwa [show r+p.nroots+(j - p.nroots)=r+j from by omega]at this
def X4 (tmps:Array Value):ResultVar->Sem Value
 | .tmp t=>pure (tmps.getD t undef)
 | .cell b t=>do loadVar t (<-asAddr (tmps.getD b undef))
section
variable {X:Ctx} {D:Nat->Prop} {Γ:List FE} {st:St} {ρ:Env} {a:Act} {w:World} {g:G}
theorem Ap1 (hi:Aw X D st ρ a w g){v:ResultVar}{x:Bool×List SC}(h:Agb X.P st v= .ok x):
 ∃u,(X4 a.tmps v).run X.P w= .ok u w/\(if x.1 then C9 w g (Ay ρ x.2) u else ∃c,x.2=[c]/\Au w g (c.enc ρ) u):=by
 cases v with
 | tmp t=>
  simp only[Agb]at h;refine⟨a.tmps.getD t undef,rfl,?_⟩;have hs:=hi.inv.slot t;split at h
  ·rename_i c hc;cases h;rw[hc]at hs;exact⟨c,rfl,hs⟩
  ·rename_i xs hc;cases h;rw[hc]at hs;exact hs
  ·cases h
 | cell b t=>
  simp only[Agb]at h;split at h
  ·rename_i r hc;split at h
   ·rename_i e cells hr;obtain⟨sv,hv,h⟩:=Al h;have hs:=hi.inv.slot b;rw[hc]at hs;have hs:Au w g (.hd (r,[])) (a.tmps.getD b undef):=by simpa[SV.enc,SC.enc,Bp]using hs
    have hu:=Cu hs;obtain⟨bb,base,f,q1,q2,q3⟩:=Ow hi hr;rw[q1]at hu
    obtain ⟨u, hu1, hu2⟩ := J2 (D := NoD) (d := 0) (ty := t) (ps := "") (af := #[]) (gd := none) (x := .tmp 0) hv (b := bb) (o := base) (f := f) (fun h => h) q3 (ρ := fun _ => .pointer (some ⟨bb, base, none⟩)) rfl
    have hrun:=hu1 w (fun _=>F9.refl _ _);have hl:(loadVar t ⟨bb,base,none⟩).run X.P w= .ok u w:=by
     simp only[execOp,Instr.loadAt,Instr.sureAddr,Sem.run_bind,Sem.run_pure,Result.andThen_ok]at hrun;generalize (loadVar t ⟨bb,base,none⟩).run X.P w=R at hrun ⊢;cases R with
     | ok z w2=>simp only[Result.andThen_ok,Result.ok.injEq,Next.value.injEq]at hrun;rw[hrun.1,hrun.2]
     | halt z w2=>simp[Result.andThen]at hrun
    refine⟨u,by simp only[X4,hu,asAddr,Sem.run_bind,Sem.run_pure,Result.andThen_ok];exact hl,?_⟩;split at h
    ·cases h;exact⟨_,rfl,hu2⟩
    ·cases h;exact hu2
    ·cases h
   ·cases h
  ·cases h
theorem Aev (hi:Aw X D st ρ a w g):∀(vs:List ResultVar) (xs:List (Bool×List SC)),Xp X.P st vs= .ok xs->∃us:List Value,us.length=xs.length/\
 (vs.mapM (X4 a.tmps)).run X.P w= .ok us w/\
 ∀(k:Nat) (x:Bool×List SC),xs[k]? =some x->∃u,us[k]? =some u/\(if x.1 then C9 w g (Ay ρ x.2) u else ∃c,x.2=[c]/\Au w g (c.enc ρ) u)
 | [],xs,h=>by
  simp only[Xp,Ag]at h;subst h;exact⟨[],rfl,by simp,fun k x h=>by simp at h⟩
 | v::vs,xs,h=>by
  simp only[Xp]at h;obtain⟨x,hx,h⟩:=Al h;obtain⟨xs',hxs,h⟩:=Al h;simp only[Ag]at h;subst h;obtain⟨u,h1,h2⟩:=Ap1 hi hx;obtain⟨us,e1,e2,e3⟩:=Aev hi vs xs' hxs;refine⟨u::us,by simp[e1],?_,fun k y hy=> ?_⟩
  ·rw[List.mapM_cons];simp only[Sem.run_bind,h1,Result.andThen_ok,e2,Sem.run_pure]
  ·cases k with
   | zero=>simp only[List.getElem?_cons_zero,Ah]at hy;subst hy;exact⟨u,rfl,h2⟩
   | succ k=>simpa using e3 k y (by simpa using hy)
theorem Alt (hi:Aw X D st ρ a w g){F:Func}{xs:List (Bool×List SC)}(h:Xp X.P st F.results.toList= .ok xs)(hne:xs.isEmpty=false):∃v,(results F a.tmps).run X.P w= .ok v w/\Bp X.P w g ((Agc xs).enc ρ) v:=by
 obtain⟨us,e1,e2,e3⟩:=Aev hi _ _ h;have hm:(F.results.mapM (X4 a.tmps)).run X.P w= .ok us.toArray w:=by
  rw[Array.mapM_eq_mapM_toList];simp only[Sem.run_map,e2];rfl
 have hrun:(results F a.tmps).run X.P w= .ok (if h:us.toArray.size=1 then us.toArray[0]else .tuple us.toArray) w:=by
  have e:results F a.tmps=(do
   let vs<-F.results.mapM (X4 a.tmps)
   pure (if h:vs.size=1 then vs[0]else .tuple vs)):=by
   unfold results;have:(fun x:ResultVar=>match x with | .tmp t=>(pure (a.tmps.getD t undef):Sem Value) | .cell b t=>do loadVar t (<-asAddr (a.tmps.getD b undef)))=X4 a.tmps:=by
    funext v;cases v<;>rfl
   rw[<-this];rfl
  rw[e];simp only[Sem.run_bind,Sem.run_pure,hm,Result.andThen_ok]
 refine⟨_,hrun,?_⟩;have tup:us.length≠1->Bp X.P w g (.tup (xs.map (Jy ρ))) (if h:us.toArray.size=1 then us.toArray[0]else .tuple us.toArray):=fun hl=>by
  rw[dif_neg (by simpa using hl)];refine⟨us.toArray,rfl,by simp[e1],fun k r hr=> ?_⟩;rw[List.getElem?_map,Option.map_eq_some_iff]at hr;obtain⟨x,hx,rfl⟩:=hr;obtain⟨u,hu,hh⟩:=e3 k x hx;refine⟨u,by simpa using hu,?_⟩;unfold Jy;split at hh
  ·rename_i hb;rw[if_pos hb];exact hh
  ·rename_i hb;rw[if_neg hb];obtain⟨c,hc,hr⟩:=hh;rw[hc];simp only[Ay];exact hr
 match xs,e1,e3,hne,tup with
 | [],_,_,hne,_=>cases hne
 | [(b,cs)],e1,e3,_,_=>
  match us,e1,e3 with
  | [u],_,e3=>
   obtain⟨u',hu,hh⟩:=e3 0 (b,cs) rfl;simp only[List.getElem?_cons_zero,Ah]at hu;subst hu;cases b with
   | true=>exact hh
   | false=>
    obtain⟨c,hc,hr⟩:=hh;simp only at hc;subst hc;exact hr
 | x::x2::xs,e1,_,_,tup=>
  have hp:Agc (x::x2::xs)= .tup (x::x2::xs):=by { obtain⟨b,cs⟩:=x;cases b<;>rcases cs with _ | ⟨c,_ | ⟨c2,cs⟩⟩<;>rfl }
  rw[hp];exact tup (by rw[e1];simp)
end
end Go.Pu
/-
  Own work. Calls, the way in: what is handed over.
-/
namespace Go.Pu
open Go Go.RowKit
set_option linter.unusedVariables false
set_option linter.unusedSectionVars false
def O1:List Nat->Nat->Option Nat
 | [],_=>none
 | x::xs,r=>if x=r then some 0 else(O1 xs r).map (·+1)
theorem Tn:∀{R:List Nat} {r j:Nat},O1 R r=some j->R[j]? =some r
 | [],_,_,h=>by cases h
 | x::xs,r,j,h=>by
  simp only[O1]at h;split at h
  ·rename_i e;cases h;rw[e];rfl
  ·rw[Option.map_eq_some_iff]at h;obtain⟨k,hk,rfl⟩:=h;simpa using Tn hk
theorem O2:∀{R:List Nat} {r j:Nat},Ft R=true->R[j]? =some r->O1 R r=some j
 | [],_,_,_,h=>by simp at h
 | x::xs,r,j,hn,h=>by
  simp only[Ft,Ai,Bool.not_eq_true']at hn;simp only[O1];cases j with
  | zero=>simp only[List.getElem?_cons_zero,Ah]at h;rw[if_pos h]
  | succ j=>
   simp only[List.getElem?_cons_succ]at h;have hne:x≠r:=fun e=>by
    subst e;have:xs.contains x=true:=by simpa using List.mem_of_getElem? h
    rw[this]at hn;cases hn.1
   rw[if_neg hne,O2 hn.2 h];rfl
theorem Mu:∀{R:List Nat} {r:Nat},R.contains r=false->O1 R r=none
 | [],_,_=>rfl
 | x::xs,r,h=>by
  simp only[List.contains_cons,Bool.or_eq_false_iff]at h;simp only[O1];rw[if_neg (fun e=>by subst e;simp at h),Mu h.2];rfl
theorem Uz:∀{R:List Nat} {r:Nat},R.contains r=true->∃j,O1 R r=some j
 | [],_,h=>by cases h
 | x::xs,r,h=>by
  simp only[O1];by_cases e:x=r
  ·exact⟨0,if_pos e⟩
  ·rw[if_neg e];have h2:xs.contains r=true:=by
    simp only[List.contains_cons,Bool.or_eq_true]at h;rcases h with h | h
    ·exact absurd (by simpa using h:r=x).symm e
    ·exact h
   obtain⟨j,hj⟩:=Uz h2;exact⟨j+1,by rw[hj];rfl⟩
def El (g:G)(R:List Nat)(Z:Nat->Bool):G:=
 { S:=fun b=>g.S b\/∃l,g.own b=some l/\Z l.1=false,own:=fun b=>match g.own b with | some l=>(O1 R l.1).map fun j=>(j,l.2) | none=>none,hdr:=fun l=>match R[l.1]? with | some r=>g.hdr (r,l.2) | none=>undef }
theorem V8 {g:G}{R:List Nat}{Z:Nat->Bool}{b:Nat}{l:Loc}(h:(El g R Z).own b=some l):∃l0,g.own b=some l0/\R.contains l0.1=true/\O1 R l0.1=some l.1/\l0.2=l.2:=by
 simp only[El]at h;split at h
 ·rename_i l0 h0;rw[Option.map_eq_some_iff]at h;obtain⟨j,hj,rfl⟩:=h;exact⟨l0,h0,by simpa using List.mem_of_getElem? (Tn hj),hj,rfl⟩
 ·cases h
theorem R5 {w:World}{g:G}{R:List Nat}{Z:Nat->Bool}{rg:Rg}(h:Mh Z rg=true):∀b,g.reg rg b->(El g R Z).reg none b:=fun b hb=>by
 cases rg with
 | none=>exact .inl hb
 | some r=>
  simp only[Mh,Bool.not_eq_true']at h;rcases hb with hb | ⟨p,hb⟩
  ·exact .inl hb
  ·exact .inr ⟨(r,p),hb,h⟩
theorem Ap2 {w:World}{g:G}{R:List Nat}{Z:Nat->Bool}{rg:Rg}(h:Mh Z rg=true){q q' :C}{v:Value}(hq:Au w g q v)(hr:C.Rel (fun _ _=>False) (fun a b=>a=rg/\b=none) q q'):Au w (El g R Z) q' v:=
 hq.rel (fun _ _ h=>h.elim) (fun a b ⟨e1,e2⟩ b' hb=>by subst e1 e2;exact⟨R5 (w:=w) h b' hb,rfl⟩) hr
theorem To:∀(ts:List Ty) (cs:List (List V)),(∀(k:Nat) (t:Ty) (c:List V),ts[k]? =some t->cs[k]? =some c->c.length=t.n)->cs.length=ts.length->
 (cs.flatten.length=(I5 ts).n)/\∀(i:Nat) (t:Ty) (c:List V),ts[i]? =some t->cs[i]? =some c->V.proj ⟨I5 ts,(mkv (I5 ts) cs.flatten).1⟩ (Be ts.length i)=⟨t,(mkv t c).1⟩
 | [],[],_,_=>⟨rfl,fun i t c h=>by simp at h⟩
 | [t0],[c0],hl,_=>⟨by simpa[I5]using hl 0 t0 c0 rfl rfl,fun i t c h1 h2=>by
  cases i with
  | zero=>
   simp only[List.getElem?_cons_zero,Ah]at h1 h2;subst h1 h2;simp[I5,Be,V.proj]
  | succ i=>simp at h1⟩
 | t0::t1::ts,c0::c1::cs,hl,hlen=>by
  have h0:=hl 0 t0 c0 rfl rfl;obtain⟨e1,e2⟩:=To (t1::ts) (c1::cs) (fun k t c q1 q2=>hl (k+1) t c (by simpa using q1) (by simpa using q2)) (by simpa using hlen);have hp:I5 (t0::t1::ts)= .pr t0 (I5 (t1::ts)):=rfl;have hlf:(c0::c1::cs).flatten.length=(I5 (t0::t1::ts)).n:=by rw[hp,List.flatten_cons,Ad,e1,h0];rfl
  refine⟨hlf,fun i t c q1 q2=> ?_⟩;have hm:=Abd t0 (I5 (t1::ts)) (c0::c1::cs).flatten (by rw[hlf,hp]);have ht:(c0::c1::cs).flatten.take t0.n=c0:=by rw[List.flatten_cons,<-h0,List.take_left]
  have hd:(c0::c1::cs).flatten.drop t0.n=(c1::cs).flatten:=by rw[List.flatten_cons,<-h0,List.drop_left]
  rw[ht,hd]at hm;have hv:(⟨I5 (t0::t1::ts),(mkv (I5 (t0::t1::ts)) (c0::c1::cs).flatten).1⟩:V)=⟨.pr t0 (I5 (t1::ts)),((mkv t0 c0).1,(mkv (I5 (t1::ts)) (c1::cs).flatten).1)⟩:=by rw[<-hm];rfl
  rw[hv];cases i with
  | zero=>
   simp only[List.getElem?_cons_zero,Ah]at q1 q2;subst q1 q2;rfl
  | succ i=>exact e2 i t c (by simpa using q1) (by simpa using q2)
 | [],_::_,_,h=>by simp at h
 | _::_,[],_,h=>by simp at h
 | [_],_::_::_,_,h=>by simp at h
 | _::_::_,[_],_,h=>by simp at h
theorem Abn:∀(t:Ty) (vs:List V) (k:Nat) (u:Ty) (v:V) (q:C),vs.length=t.n->t.leaves[k]? =some u->vs[k]? =some v->(enc none t (mkv t vs).1)[k]? =some q->enc none u (mkv u [v]).1=[q]:=by
 intro t
 induction t with
 | pr a b iha ihb=>
  intro vs k u v q hl q1 q2 q3;rw[Abd a b vs hl]at q3;simp only[Ty.n]at hl;simp only[enc,Ty.leaves,List.getElem?_append,A2,Ba]at q1 q3;split at q1
  ·rename_i hk;rw[if_pos hk]at q3;exact iha (vs.take a.n) k u v q (by simp;omega) q1 (by rw[List.getElem?_take,if_pos hk];exact q2) q3
  ·rename_i hk;rw[if_neg hk]at q3;exact ihb (vs.drop a.n) (k - a.n) u v q (by simp;omega) q1 (by rw[List.getElem?_drop,show a.n+(k - a.n)=k from by omega];exact q2) q3
 | unit=>intro vs k u v q hl q1;simp[Ty.leaves]at q1
 | _=>
  intro vs k u v q hl q1 q2 q3;have hk:k=0:=by have:=(List.getElem?_eq_some_iff.1 q1).1;simp[Ty.leaves]at this;exact this
  subst hk;simp only[Ty.leaves,List.getElem?_cons_zero,Ah]at q1;subst q1;simp only[Ty.n]at hl
  match vs,hl,q2,q3 with
  | [v'],_,q2,q3=>
   simp only[List.getElem?_cons_zero,Ah]at q2;subst q2;simp only[enc,List.getElem?_cons_zero,Ah]at q3 ⊢;rw[q3]
section
variable {X:Ctx} {D:Nat->Prop} {Γ:List FE} {st:St} {ρ:Env} {a:Act} {w:World} {g:G} {R:List Nat} {Z:Nat->Bool}
theorem Asi {e:TypeId}{b:Ty}(xs:(Ty.sl e b).den):(mkv (.sl e b) [⟨.sl e b,xs⟩]).1=xs:=by simp[mkv]
theorem Alu (hi:Aw X D st ρ a w g){t:Ty}{c:SC}{x:At}{v:Value}(h:st.argVal Z t c= .ok x)(hc:Au w g (c.enc ρ) v):∃q,enc none t (mkv t [x.get ρ]).1=[q]/\Au w (El g R Z) q v:=by
 have fromRo:∀(rg:Rg),t.isSl=true->x.ty st.ts=some t->Mh Z rg=true->Au w g (.ro rg ((x.get ρ).els rg)) v->∃q,enc none t (mkv t [x.get ρ]).1=[q]/\Au w (El g R Z) q v:=fun rg hs hx hr hq=>by
  have hv:=At.ty_get hi.typ hx;cases t with
  | sl e b=>
   rw[V.list_of hv]at hq ⊢;generalize (x.get ρ).as (.sl e b)=ys at hq;refine⟨.ro none (List.map (enc none b) ys),by simp[mkv,enc],Ap2 hr hq ?_⟩;exact Hf (ml:=fun _ _=>False) (mr:=fun a b=>a=rg/\b=none) (.sl e b) (.inr ⟨rfl,rfl⟩) ys 0 _ _ rfl rfl
  | _=>cases hs
 unfold St.argVal at h;split at h
 ·rename_i y;split at h
  ·rename_i hh;cases h;obtain⟨h1,h2⟩:=hh;have hv:=At.ty_get hi.typ h2;simp only[SC.enc]at hc;cases t with
   | int k=>
    rw[V.int_of hv]at hc ⊢;simp only[V.c]at hc;exact⟨_,rfl,by simp only[V.int];cases hc;exact .int _ _⟩
   | bool=>
    rw[V.bool_of hv]at hc ⊢;simp only[V.c]at hc;exact⟨_,rfl,by simp only[V.bool];cases hc;exact .bool _⟩
   | _=>cases h1
  ·cases h
 ·split at h
  ·rename_i hs;cases h;cases t with
   | sl e b=>
    simp only[SC.enc]at hc;cases hc;exact⟨.ro none [],by { show [C.ro none (List.map (enc none b) (mkv (.sl e b) [⟨.sl e b,([]:List b.den)⟩]).1)]=_;rw[Asi];rfl },.ro0 _ _ _⟩
   | _=>cases hs
  ·cases h
 ·rename_i rg y;split at h
  ·rename_i hh;cases h;simp only[SC.enc]at hc;exact fromRo rg hh.1 hh.2.1 hh.2.2 hc
  ·cases h
 ·rename_i r;split at h
  ·rename_i e b val nl hr;split at h
   ·rename_i hh;cases h;obtain⟨rfl,hf,hx,hR⟩:=hh;simp only[SC.enc]at hc;rw[Cu hc];have hl:=Azh hi hr hf;have hv:=At.ty_get hi.typ hx;have hve:(V.els (some r) (x.get ρ))=List.map (enc (some r) b) ((x.get ρ).as (.sl e b)):=by
     have:=V.list_of hv;rw[this];simp only[V.els,V.as_self]
    rw[Cu hc]at fromRo;exact fromRo (some r) rfl hx (by simp only[Mh];exact hR) (by rw[hve];exact hl)
   ·cases h
  ·rename_i e b val nl r2 hr;split at h
   ·rename_i hh;cases h;obtain⟨rfl,hx,hR,hR2⟩:=hh;simp only[SC.enc]at hc;rw[Cu hc];have hv:=At.ty_get hi.typ hx;have hro:=Ut (Ee hi hr);rw[V.list_of hv];generalize (x.get ρ).as (.sl e b)=ys at hro;refine⟨.ro none (List.map (enc none b) ys),by simp[mkv,enc],hro.rel (ml:=fun _ _=>False) (mr:=fun p q=>Mh Z p=true/\q=none) (fun _ _ h=>h.elim) (fun p q ⟨h1,e2⟩ b' hb=>by subst e2;exact⟨R5 (w:=w) h1 b' hb,rfl⟩) (.ro _ _ _ _ (by simp) (fun _=>⟨by simp only[Mh];exact hR,rfl⟩) (fun i cs cs' q1 q2=> ?_) (fun i cs cs' k y y' q1 q2 q3 q4=> ?_))⟩
    ·rw[List.getElem?_mapIdx,Option.map_eq_some_iff]at q1;rw[List.getElem?_map,Option.map_eq_some_iff]at q2;obtain⟨z,hz,rfl⟩:=q1;obtain⟨z',hz',rfl⟩:=q2;simp only[Bk,A2]
    ·rw[List.getElem?_mapIdx,Option.map_eq_some_iff]at q1;rw[List.getElem?_map,Option.map_eq_some_iff]at q2;obtain⟨z,hz,rfl⟩:=q1;obtain⟨z',hz',rfl⟩:=q2;rw[hz]at hz';cases hz'
     exact Hf b (.inr ⟨by simp only[Mh];exact hR2,rfl⟩) z k y y' q3 q4
   ·cases h
  ·rename_i e b val nl hr;split at h
   ·rename_i hh;cases h;obtain⟨rfl,hx,hR⟩:=hh;simp only[SC.enc]at hc;rw[Cu hc];have hv:=At.ty_get hi.typ hx;have hro:=Ut (Ee hi hr);rw[V.list_of hv];generalize (x.get ρ).as (.sl e b)=ys at hro;refine⟨.ro none (List.map (enc none b) ys),by simp[mkv,enc],hro.rel (ml:=fun _ _=>False) (mr:=fun p q=>Mh Z p=true/\q=none) (fun _ _ h=>h.elim) (fun p q ⟨h1,e2⟩ b' hb=>by subst e2;exact⟨R5 (w:=w) h1 b' hb,rfl⟩) (.ro _ _ _ _ (by simp) (fun _=>⟨by simp only[Mh];exact hR,rfl⟩) (fun i cs cs' q1 q2=> ?_) (fun i cs cs' k y y' q1 q2 q3 q4=> ?_))⟩
    ·rw[List.getElem?_mapIdx,Option.map_eq_some_iff]at q1;rw[List.getElem?_map,Option.map_eq_some_iff]at q2;obtain⟨z,hz,rfl⟩:=q1;obtain⟨z',hz',rfl⟩:=q2;simp only[Bk,A2]
    ·rw[List.getElem?_mapIdx,Option.map_eq_some_iff]at q1;rw[List.getElem?_map,Option.map_eq_some_iff]at q2;obtain⟨z,hz,rfl⟩:=q1;obtain⟨z',hz',rfl⟩:=q2;rw[hz]at hz';cases hz'
     exact Hf b (.inr ⟨rfl,rfl⟩) z k y y' q3 q4
   ·cases h
  ·cases h
 ·split at h
  ·rename_i hh;cases h;simp only[SC.enc]at hc;exact fromRo _ hh.1 hh.2.1 (by simp only[Mh];exact hh.2.2) (Hv hc)
  ·cases h
 ·split at h
  ·rename_i hh;cases h;simp only[SC.enc]at hc;exact fromRo _ hh.1 hh.2.1 (by simp only[Mh];exact hh.2.2) (Hv hc)
  ·cases h
 ·split at h
  ·rename_i hh;cases h;simp only[SC.enc]at hc;exact fromRo none hh.1 hh.2 rfl (Hv hc)
  ·cases h
 ·cases h
theorem Iy:∀(ts:List Ty) (cs:List SC) (ys:List At),st.argVals Z ts cs= .ok ys->cs.length=ts.length/\ys.length=ts.length/\∀(k:Nat) (t:Ty),ts[k]? =some t->∃c y,cs[k]? =some c/\ys[k]? =some y/\st.argVal Z t c= .ok y
 | [],[],ys,h=>by simp only[St.argVals,Ag]at h;subst h;exact⟨rfl,rfl,fun k t h=>by simp at h⟩
 | t::ts,c::cs,ys,h=>by
  simp only[St.argVals]at h;obtain⟨y,hy,h⟩:=Al h;obtain⟨ys',hys,h⟩:=Al h;simp only[Ag]at h;subst h;obtain⟨e1,e2,e3⟩:=Iy ts cs ys' hys;refine⟨by simp[e1],by simp[e2],fun k u hu=> ?_⟩;cases k with
  | zero=>simp only[List.getElem?_cons_zero,Ah]at hu;subst hu;exact⟨c,y,rfl,rfl,hy⟩
  | succ k=>simpa using e3 k u (by simpa using hu)
 | [],_::_,_,h=>by simp[St.argVals]at h
 | _::_,[],_,h=>by simp[St.argVals]at h
theorem R6 (hi:Aw X D st ρ a w g){t:Ty}{cs:List SC}{ys:List At}(h:st.argVals Z t.leaves cs= .ok ys):ys.length=t.n/\cs.length=t.n/\
 ∀(k:Nat) (q:C),(enc none t (mkv t (ys.map (At.get ρ))).1)[k]? =some q->∃c,cs[k]? =some c/\∀v,Au w g (c.enc ρ) v->Au w (El g R Z) q v:=by
 obtain⟨e1,e2,e3⟩:=Iy _ _ _ h;have hl:=Ba t;refine⟨by omega,by omega,fun k q hq=> ?_⟩;have hk:k<t.n:=by rw[<-A2 none t (mkv t (ys.map (At.get ρ))).1];exact(List.getElem?_eq_some_iff.1 hq).1
 have hu:t.leaves[k]? =some (t.leaves[k]'(by omega)):=List.getElem?_eq_getElem (by omega);obtain⟨c,y,h1,h2,h3⟩:=e3 k _ hu;refine⟨c,h1,fun v hv=> ?_⟩;obtain⟨q',q1,q2⟩:=Alu hi h3 hv;have:=Abn t (ys.map (At.get ρ)) k _ (y.get ρ) q (by rw[Ae];omega) hu (by rw[List.getElem?_map,h2];rfl) hq;rw[q1]at this;cases this;exact q2
theorem Ai5 {P:Program}{ρ' :Env}{g' :G}{agg:Bool}{sv:SV}{cs ds:List SC}{v:Value}(hs:Aas agg sv= .ok cs)(hr:Bp P w g (sv.enc ρ) v)(hl:ds.length=cs.length)
 (hd:∀(k:Nat) (q:C),(Ay ρ' ds)[k]? =some q->∃c,cs[k]? =some c/\∀v,Au w g (c.enc ρ) v->Au w g' q v):Bp P w g' ((Aar agg ds).enc ρ') v:=by
 unfold Aas at hs;split at hs
 ·rename_i c;split at hs
  ·cases hs
  ·rename_i hag;cases hs;have hag:agg=false:=by simpa using hag
   subst hag
   match ds,hl with
   | [d],_=>
    obtain⟨c',h1,h2⟩:=hd 0 _ (by simp only[Ay];rfl);cases h1;exact h2 v hr
 ·rename_i xs;split at hs
  ·rename_i hag;cases hs;subst hag;obtain⟨vs,e1,e2,e3⟩:=hr;refine⟨vs,e1,by rw[e2,An,An,Ae,Ae,hl],fun k q hq=> ?_⟩;obtain⟨c,h1,h2⟩:=hd k q hq;obtain⟨u,hu,hc⟩:=e3 k (c.enc ρ) (by rw[An,List.getElem?_map,h1];rfl);exact⟨u,hu,h2 u hc⟩
  ·cases hs
 ·cases hs
theorem Anu (hi:Aw X D st ρ a w g){ρ' :Env}{c:SC}{cs ds:List SC}{v:Value}(hp:st.ptrCells Z c= .ok cs)(hr:Au w g (c.enc ρ) v)(hl:ds.length=cs.length)
 (hd:∀(k:Nat) (q:C),(Ay ρ' ds)[k]? =some q->∃c,cs[k]? =some c/\∀v,Au w g (c.enc ρ) v->Au w (El g R Z) q v):Au w (El g R Z) (.rp none (Ay ρ' ds)) v:=by
 unfold St.ptrCells at hp;split at hp
 ·rename_i r;split at hp
  ·rename_i e cells hrk;split at hp
   ·rename_i hR;cases hp;obtain⟨b,base,f,q1,q2,q3⟩:=Ow hi hrk;simp only[SC.enc]at hr;rw[Cu hr,q1];refine .rp none _ b base f (R5 (w:=w) (rg:=some r) (by simp only[Mh];exact hR) b (.inr ⟨[],q2⟩)) (fun k q hq=> ?_) (fun k q hq=> ?_)
    ·obtain⟨c,h1,_⟩:=hd k q hq;exact(q3 k (c.enc ρ) (by rw[An,List.getElem?_map,h1];rfl)).1
    ·obtain⟨c,h1,h2⟩:=hd k q hq;exact h2 _ (q3 k (c.enc ρ) (by rw[An,List.getElem?_map,h1];rfl)).2
   ·cases hp
  ·cases hp
 ·rename_i rg cells;split at hp
  ·rename_i hR;cases hp;simp only[SC.enc]at hr;cases hr with
   | rp _ _ b off f hS hcell hrep=>
    refine .rp none _ b off f (R5 (w:=w) hR b hS) (fun k q hq=> ?_) (fun k q hq=> ?_)
    ·obtain⟨c,h1,_⟩:=hd k q hq;exact hcell k (c.enc ρ) (by rw[An,List.getElem?_map,h1];rfl)
    ·obtain⟨c,h1,h2⟩:=hd k q hq;exact h2 _ (hrep k (c.enc ρ) (by rw[An,List.getElem?_map,h1];rfl))
  ·cases hp
 ·cases hp
theorem V9 {t:Ty}{ts:List Ty}{c:SC}{cs:List SC}{ys:List At}{rs:List Nat}(h:st.ownVals (t::ts) (c::cs)= .ok (ys,rs)):∃y ys' rs',ys=y::ys'∧st.ownVals ts cs= .ok (ys',rs')/\
 ((t.scalar=true/\c= .v y/\y.ty st.ts=some t/\rs=rs')\/(∃e b r nl,t= .sl e b/\c= .h r/\st.rk r= .list e b y nl none/\b.flat1=true/\y.ty st.ts=some t/\rs=r::rs')):=by
 cases t with
 | sl e b=>
  simp only[St.ownVals]at h;split at h
  ·rename_i r;split at h
   ·rename_i e' b' val nl hr;obtain⟨⟨ys',rs'⟩,h1,h⟩:=Al h;simp only at h;split at h
    ·rename_i hc;cases h;obtain⟨rfl,rfl,hf,ht⟩:=hc;exact⟨val,ys',rs',rfl,h1,.inr ⟨_,_,r,nl,rfl,rfl,hr,hf,ht,rfl⟩⟩
    ·cases h
   ·cases h
  ·cases h
 | _=>
  simp only[St.ownVals]at h;split at h
  ·rename_i x;obtain⟨⟨ys',rs'⟩,h1,h⟩:=Al h;simp only at h;split at h
   ·rename_i hc;cases h;exact⟨x,ys',rs,rfl,h1,.inl ⟨hc.1,rfl,hc.2,rfl⟩⟩
   ·cases h
  ·cases h
theorem Kw {j r:Nat}(h:R[j]? =some r)(p:List (Nat×Nat)):(El g R Z).hdr (j,p)=g.hdr (r,p):=by
 simp only[El,h]
theorem Z2 (hi:Aw X D st ρ a w g){ρ' :Env}{nl' :Bool}:∀(ls:List (Ty×List Bool)) (cs:List SC) (ys:List At) (rs:List Nat) (r0:Nat),st.ownVals (ls.map (·.1)) cs= .ok (ys,rs)->
 (∀(k:Nat) (u:Ty) (pth:List Bool) (y:At),ls[k]? =some (u,pth)->ys[k]? =some y->Ref.get ρ' ⟨0,pth⟩=⟨u,(mkv u [y.get ρ]).1⟩)->(∀j r,rs[j]? =some r->R[r0+j]? =some r)->
 cs.length=ls.length/\ys.length=ls.length/\rs.length=((ls.map (·.1)).filter Ty.isSl).length/\(Iq 0 ls r0).length=ls.length/\
 (∀(k:Nat) (q:C),(Ay ρ' (Iq 0 ls r0))[k]? =some q->∃c,cs[k]? =some c/\∀v,Au w g (c.enc ρ) v->Au w (El g R Z) q v)/\
 (∀(j:Nat) (k' :RK),(Ht nl' 0 ls)[j]? =some k'→∃r e b y pth nl,rs[j]? =some r/\st.rk r= .list e b y nl none/\b.flat1=true/\k' = .list e b (.r ⟨0,pth⟩) nl' none/\(Ref.get ρ' ⟨0,pth⟩).as (.sl e b)=(y.get ρ).as (.sl e b))
 | [],cs,ys,rs,r0,h,hv,hR=>by
  cases cs with
  | nil=>simp only[List.map_nil,St.ownVals,Ag,Prod.mk.injEq]at h;obtain⟨rfl,rfl⟩:=h;exact⟨rfl,rfl,rfl,rfl,fun k q h=>by simp[Iq,Ay]at h,fun j k' h=>by simp[Ht]at h⟩
  | cons c cs=>simp[St.ownVals]at h
 | (t,pth)::ls,cs,ys,rs,r0,h,hv,hR=>by
  cases cs with
  | nil=>cases t<;>simp[St.ownVals]at h
  | cons c cs=>
   simp only[List.map_cons]at h;obtain⟨y,ys',rs',rfl,h1,hc⟩:=V9 h;have hy:=hv 0 t pth y rfl rfl;rcases hc with⟨hsc,rfl,hty,rfl⟩ | ⟨e,b,r,nl,rfl,rfl,hrk,hf,hty,rfl⟩
   ·obtain⟨i1,i2,i3,i3',i4,i5⟩:=Z2 (nl' :=nl') hi ls cs ys' rs r0 h1 (fun k u p z q1 q2=>hv (k+1) u p z (by simpa using q1) (by simpa using q2)) hR;have hcs:Iq 0 ((t,pth)::ls) r0= .v (.r ⟨0,pth⟩)::Iq 0 ls r0:=by cases t<;>first | rfl | cases hsc
    have hrs:Ht nl' 0 ((t,pth)::ls)=Ht nl' 0 ls:=by cases t<;>first | rfl | cases hsc
    have hns:t.isSl=false:=by cases t<;>first | rfl | cases hsc
    refine⟨by simp[i1],by simp[i2],by simp[i3,hns],by rw[hcs];simp[i3'],fun k q hq=> ?_,fun j k' hk=> ?_⟩
    ·rw[hcs]at hq;cases k with
     | zero=>
      simp only[Ay,List.getElem?_cons_zero,Ah,SC.enc]at hq;rw[show At.get ρ' (.r ⟨0,pth⟩)=⟨t,(mkv t [y.get ρ]).1⟩from hy]at hq;subst hq;refine⟨_,rfl,fun v hv2=> ?_⟩;have hg:=At.ty_get hi.typ hty;simp only[SC.enc]at hv2
      clear hv i5 hy
      cases t with
      | int kd=>rw[V.int_of hg]at hv2 ⊢;simp only[V.c,mkv,V.int]at hv2 ⊢;cases hv2;exact .int _ _
      | bool=>rw[V.bool_of hg]at hv2 ⊢;simp only[V.c,mkv,V.bool]at hv2 ⊢;cases hv2;exact .bool _
      | _=>cases hsc
     | succ k=>simpa using i4 k q (by simpa[Ay]using hq)
    ·rw[hrs]at hk;exact i5 j k' hk
   ·have hr0:=hR 0 r rfl;rw[Nat.add_zero]at hr0;obtain⟨i1,i2,i3,i3',i4,i5⟩:=Z2 (nl' :=nl') hi ls cs ys' rs' (r0+1) h1 (fun k u p z q1 q2=>hv (k+1) u p z (by simpa using q1) (by simpa using q2)) (fun j r' hj=>by
     have:=hR (j+1) r' (by simpa using hj)
     rwa [show r0+1+j=r0+(j+1)from by omega])
    refine⟨by simp[i1],by simp[i2],by { have:((Ty.sl e b)::ls.map (·.1)).filter Ty.isSl=(Ty.sl e b)::(ls.map (·.1)).filter Ty.isSl:=rfl;simp only[List.map_cons,this,Ab,i3] },by simp[Iq,i3'],fun k q hq=> ?_,fun j k' hk=> ?_⟩
    ·cases k with
     | zero=>
      simp only[Iq,Ay,List.getElem?_cons_zero,Ah,SC.enc]at hq;subst hq;refine⟨_,rfl,fun v hv=> ?_⟩;simp only[SC.enc]at hv;exact .hd _ _ ((Cu hv).trans (Kw hr0 []).symm)
     | succ k=>simpa using i4 k q (by simpa[Iq,Ay]using hq)
    ·cases j with
     | zero=>
      simp only[Ht,List.getElem?_cons_zero,Ah]at hk;subst hk;refine⟨r,e,b,y,pth,nl,rfl,hrk,hf,rfl,?_⟩;rw[hy,V.as_self];have hg:=At.ty_get hi.typ hty;rw[V.list_of hg];simp[mkv,V.as_self]
     | succ j=>simpa using i5 j k' (by simpa[Ht]using hk)
def mlR (R:List Nat)(l l' :Loc):Prop:=R[l'.1]? =some l.1/\l.2=l'.2
def mrN (a b:Rg):Prop:=a=none/\b=none
theorem Asj {g:G}:∀l l',mlR R l l'→(El g R Z).hdr l' =g.hdr l:=fun l l' ⟨h1,h2⟩=>by
 obtain⟨l1,l2⟩:=l;obtain⟨l3,l4⟩:=l';simp only at h1 h2;subst h2;exact Kw h1 l2
theorem Anv {w:World}{g:G}:∀a b,mrN a b->∀k,g.reg a k->(El g R Z).reg b k/\w.heap[k]? =w.heap[k]? :=fun a b ⟨h1,h2⟩ k hk=>by
 subst h1 h2;exact⟨.inl hk,rfl⟩
theorem Ask {ρ ρ' :Env}{r j:Nat}{x x' :At}(hj:R[j]? =some r)(he:x'.get ρ' =x.get ρ):C.Rel (mlR R) mrN ((SC.tk r x).enc ρ) ((SC.tk j x').enc ρ'):=by
 simp only[SC.enc,he];exact .both _ _ _ _ (.hd _ _ ⟨hj,rfl⟩) (Tl ⟨rfl,rfl⟩ _)
theorem Wa {t:Ty}{ts:List Ty}{c:SC}{cs:List SC}{ys:List At}{rs:List Nat}(h:st.tokVals (t::ts) (c::cs)= .ok (ys,rs)):∃y ys' rs',ys=y::ys'∧st.tokVals ts cs= .ok (ys',rs')/\
 ((t.scalar=true/\c= .v y/\y.ty st.ts=some t/\rs=rs')\/(∃e b r,t= .sl e b/\c= .tk r y/\y.ty st.ts=some t/\rs=r::rs')):=by
 simp only[St.tokVals]at h;have hb0:=Al h
 clear h
 obtain⟨⟨ys',rs'⟩,h1,h⟩:=hb0;simp only at h;split at h
 ·rename_i e b r y;split at h
  ·rename_i hc;cases h;exact⟨y,ys',_,rfl,h1,.inr ⟨e,b,r,rfl,rfl,hc,rfl⟩⟩
  ·cases h
 ·rename_i y;split at h
  ·rename_i hc;cases h;exact⟨y,ys',_,rfl,h1,.inl ⟨hc.1,rfl,hc.2,rfl⟩⟩
  ·cases h
 ·cases h
theorem Ai6 {t:Ty}(h:t.scalar=true):t.leaf=true:=by cases t<;>first | rfl | cases h
theorem Agr (hi:Aw X D st ρ a w g){ρ' :Env}:∀(ls:List (Ty×List Bool)) (cs:List SC) (ys:List At) (rs:List Nat) (r0:Nat),st.tokVals (ls.map (·.1)) cs= .ok (ys,rs)->
 (∀(k:Nat) (u:Ty) (pth:List Bool) (y:At),ls[k]? =some (u,pth)->ys[k]? =some y->Ref.get ρ' ⟨0,pth⟩=⟨u,(mkv u [y.get ρ]).1⟩)->(∀j r,rs[j]? =some r->R[r0+j]? =some r)->
 cs.length=ls.length/\ys.length=ls.length/\rs.length=((ls.map (·.1)).filter Ty.isSl).length/\(Aaq 0 ls r0).length=ls.length/\
 ∀(k:Nat) (q q' :C),(Ay ρ cs)[k]? =some q->(Ay ρ' (Aaq 0 ls r0))[k]? =some q'→C.Rel (mlR R) mrN q q'
 | [],cs,ys,rs,r0,h,hv,hR=>by
  cases cs with
  | nil=>simp only[List.map_nil,St.tokVals,Ag,Prod.mk.injEq]at h;obtain⟨rfl,rfl⟩:=h;exact⟨rfl,rfl,rfl,rfl,fun k q q' h=>by simp[Ay]at h⟩
  | cons c cs=>simp[St.tokVals]at h
 | (t,pth)::ls,cs,ys,rs,r0,h,hv,hR=>by
  cases cs with
  | nil=>simp[St.tokVals]at h
  | cons c cs=>
   simp only[List.map_cons]at h;obtain⟨y,ys',rs',rfl,h1,hc⟩:=Wa h;have hy:=hv 0 t pth y rfl rfl;rcases hc with⟨hsc,rfl,hty,rfl⟩ | ⟨e,b,r,rfl,rfl,hty,rfl⟩
   ·obtain⟨i1,i2,i3,i4,i5⟩:=Agr hi ls cs ys' rs r0 h1 (fun k u p z q1 q2=>hv (k+1) u p z (by simpa using q1) (by simpa using q2)) hR;have hcs:Aaq 0 ((t,pth)::ls) r0= .v (.r ⟨0,pth⟩)::Aaq 0 ls r0:=by cases t<;>first | rfl | cases hsc
    have hns:t.isSl=false:=by cases t<;>first | rfl | cases hsc
    refine⟨by simp[i1],by simp[i2],by simp[i3,hns],by rw[hcs];simp[i4],fun k q q' hq hq' => ?_⟩;rw[hcs]at hq';cases k with
    | zero=>
     simp only[Ay,List.getElem?_cons_zero,Ah,SC.enc]at hq hq';rw[show At.get ρ' (.r ⟨0,pth⟩)=y.get ρ from hy.trans (Kv _ (Ai6 hsc) (At.ty_get hi.typ hty))]at hq';subst hq hq';exact Als _
    | succ k=>exact i5 k q q' (by simpa[Ay]using hq) (by simpa[Ay]using hq')
   ·have hr0:=hR 0 r rfl;rw[Nat.add_zero]at hr0;obtain⟨i1,i2,i3,i4,i5⟩:=Agr hi ls cs ys' rs' (r0+1) h1 (fun k u p z q1 q2=>hv (k+1) u p z (by simpa using q1) (by simpa using q2)) (fun j r' hj=>by
     have:=hR (j+1) r' (by simpa using hj)
     rwa [show r0+1+j=r0+(j+1)from by omega])
    refine⟨by simp[i1],by simp[i2],by { have:((Ty.sl e b)::ls.map (·.1)).filter Ty.isSl=(Ty.sl e b)::(ls.map (·.1)).filter Ty.isSl:=rfl;simp only[List.map_cons,this,Ab,i3] },by simp[Aaq,i4],fun k q q' hq hq' => ?_⟩;cases k with
    | zero=>
     simp only[Aaq,Ay,List.getElem?_cons_zero,Ah]at hq hq';subst hq hq';exact Ask hr0 (hy.trans (Kv _ rfl (At.ty_get hi.typ hty)))
    | succ k=>exact i5 k q q' (by simpa[Ay]using hq) (by simpa[Aaq,Ay]using hq')
theorem Ni {e:TypeId}{t:Ty}{v:SV}{ys:List At}{rs:List Nat}(h:st.boxVals e t v= .ok (ys,rs)):∃r cells rs',v= .c (.h r)/\st.rk r= .box e cells/\st.tokVals t.leaves cells= .ok (ys,rs')/\rs=r::rs' :=by
 unfold St.boxVals at h;split at h
 ·rename_i r;split at h
  ·rename_i e' cells hr;have hb0:=Al h
   clear h
   obtain⟨⟨ys',rs'⟩,h1,h⟩:=hb0;simp only at h;split at h
   ·rename_i e0;subst e0;cases h;exact⟨r,cells,rs',rfl,hr,h1,rfl⟩
   ·cases h
  ·cases h
 ·cases h
theorem Alv {e:TypeId}{b:Ty}{v:SV}{y:At}{r:Nat}(h:st.tokVal e b v= .ok (y,r)):v= .c (.tk r y)/\y.ty st.ts=some (.sl e b):=by
 unfold St.tokVal at h;split at h
 ·split at h
  ·rename_i hc;cases h;exact⟨rfl,hc⟩
  ·cases h
 ·cases h
theorem R7:∀(ts:List Ty) (cs:List SC) (ys:List At) (rs:List Nat),st.tokVals ts cs= .ok (ys,rs)->ys.length=ts.length/\cs.length=ts.length/\rs.length=(ts.filter Ty.isSl).length
 | [],[],ys,rs,h=>by simp only[St.tokVals,Ag,Prod.mk.injEq]at h;obtain⟨rfl,rfl⟩:=h;exact⟨rfl,rfl,rfl⟩
 | [],c::cs,ys,rs,h=>by simp[St.tokVals]at h
 | t::ts,[],ys,rs,h=>by simp[St.tokVals]at h
 | t::ts,c::cs,ys,rs,h=>by
  obtain⟨y,ys',rs',rfl,h1,hc⟩:=Wa h;obtain⟨e1,e2,e3⟩:=R7 ts cs ys' rs' h1;rcases hc with⟨hsc,_,_,rfl⟩ | ⟨e,b,r,rfl,_,_,rfl⟩
  ·have hns:t.isSl=false:=by cases t<;>first | rfl | cases hsc
   exact⟨by simp[e1],by simp[e2],by simp[e3,hns]⟩
  ·have:((Ty.sl e b)::ts).filter Ty.isSl=(Ty.sl e b)::ts.filter Ty.isSl:=rfl;exact⟨by simp[e1],by simp[e2],by rw[this];simp[e3]⟩
end
end Go.Pu
/-
  Own work. Calls, the way in: what the contract asks for.
-/
namespace Go.Pu
open Go Go.RowKit
set_option linter.unusedVariables false
set_option linter.unusedSectionVars false
def nb (ps:List Par)(k:Nat):Nat:=((ps.take k).map Par.nroots).sum
theorem Z3 (ps:List Par):nb ps 0=0:=rfl
theorem Z4 (p:Par)(ps:List Par)(k:Nat):nb (p::ps) (k+1)=p.nroots+nb ps k:=by simp[nb]
theorem Abo (p:List Bool)(t:Ty):(t.lp p).map (·.1)=t.leaves:=by
 unfold Ty.lp;rw[List.map_fst_zip (by rw[Ba,C1];exact Nat.le_refl _)]
theorem Ayb {p:List Bool}{t:Ty}{k:Nat}{u:Ty}{pth:List Bool}(h:(t.lp p)[k]? =some (u,pth)):t.leaves[k]? =some u/\(Bw p t)[k]? =some pth:=by
 unfold Ty.lp at h;rw[List.getElem?_zip_eq_some]at h;exact h
theorem Wb (nl:Bool)(n:Nat):∀(ls:List (Ty×List Bool)),(Ht nl n ls).length=((ls.map (·.1)).filter Ty.isSl).length
 | []=>rfl
 | (t,p)::ls=>by
  have ih:=Wb nl n ls;cases t with
  | sl e a=>
   have:((Ty.sl e a)::ls.map (·.1)).filter Ty.isSl=(Ty.sl e a)::(ls.map (·.1)).filter Ty.isSl:=rfl;simp only[Ht,List.map_cons,this,Ab,ih]
  | int k=>
   have:((Ty.int k)::ls.map (·.1)).filter Ty.isSl=(ls.map (·.1)).filter Ty.isSl:=rfl;simp only[Ht,List.map_cons,this,ih]
  | bool=>
   have:((Ty.bool)::ls.map (·.1)).filter Ty.isSl=(ls.map (·.1)).filter Ty.isSl:=rfl;simp only[Ht,List.map_cons,this,ih]
  | unit=>
   have:((Ty.unit)::ls.map (·.1)).filter Ty.isSl=(ls.map (·.1)).filter Ty.isSl:=rfl;simp only[Ht,List.map_cons,this,ih]
  | mp=>
   have:((Ty.mp)::ls.map (·.1)).filter Ty.isSl=(ls.map (·.1)).filter Ty.isSl:=rfl;simp only[Ht,List.map_cons,this,ih]
  | pr a b=>
   have:((Ty.pr a b)::ls.map (·.1)).filter Ty.isSl=(ls.map (·.1)).filter Ty.isSl:=rfl;simp only[Ht,List.map_cons,this,ih]
theorem Zi (m i r:Nat)(p:Par):(I6 m i r p).length=p.nroots:=by
 cases p with
 | iob e t=>simp only[I6,Ab,List.length_replicate,Par.nroots];omega
 | own agg t io=>simp only[I6,Wb,Abo,Par.nroots,Ty.sls]
 | _=>rfl
theorem N6 (m:Nat):∀(ps:List Par) (i r k:Nat),(Ir m i r ps)[k]? =(ps[k]?).map (Vp m (i+k) (r+nb ps k))
 | [],i,r,k=>by simp[Ir]
 | p::ps,i,r,k=>by
  cases k with
  | zero=>simp[Ir,Z3]
  | succ k=>
   simp only[Ir,List.getElem?_cons_succ];rw[N6 m ps,Z4,show i+1+k=i+(k+1)from by omega,Nat.add_assoc]
theorem N7 (m:Nat):∀(ps:List Par) (i r j:Nat) (k' :RK),(J1 m i r ps)[j]? =some k'→∃k p q,ps[k]? =some p/\(I6 m (i+k) (r+nb ps k) p)[q]? =some k'∧j=nb ps k+q
 | [],i,r,j,k',h=>by simp[J1]at h
 | p::ps,i,r,j,k',h=>by
  simp only[J1,List.getElem?_append,Zi]at h;split at h
  ·exact⟨0,p,j,rfl,by rw[Z3];exact h,by simp[Z3]⟩
  ·rename_i hj;obtain⟨k,p',q,h1,h2,h3⟩:=N7 m ps (i+1) (r+p.nroots) _ k' h;exact⟨k+1,p',q,by simpa using h1,by rwa [Z4,show i+(k+1)=i+1+k from by omega,show r+(p.nroots+nb ps k)=r+p.nroots+nb ps k from by omega],by rw[Z4];omega⟩
section
variable {X:Ctx} {D:Nat->Prop} {Γ:List FE} {st:St} {ρ:Env} {a:Act} {w:World} {g:G} {R:List Nat} {Z:Nat->Bool}
theorem R8:∀(ts:List Ty) (cs:List SC) (ys:List At) (rs:List Nat),st.ownVals ts cs= .ok (ys,rs)->ys.length=ts.length/\cs.length=ts.length/\rs.length=(ts.filter Ty.isSl).length
 | [],[],ys,rs,h=>by simp only[St.ownVals,Ag,Prod.mk.injEq]at h;obtain⟨rfl,rfl⟩:=h;exact⟨rfl,rfl,rfl⟩
 | [],c::cs,ys,rs,h=>by simp[St.ownVals]at h
 | t::ts,[],ys,rs,h=>by cases t<;>simp[St.ownVals]at h
 | t::ts,c::cs,ys,rs,h=>by
  obtain⟨y,ys',rs',rfl,h1,hc⟩:=V9 h;obtain⟨e1,e2,e3⟩:=R8 ts cs ys' rs' h1;rcases hc with⟨hsc,rfl,hty,rfl⟩ | ⟨e,b,r,nl,rfl,rfl,hrk,hf,hty,rfl⟩
  ·refine⟨by simp[e1],by simp[e2],?_⟩;have:(t::ts).filter Ty.isSl=ts.filter Ty.isSl:=by cases t<;>first | rfl | cases hsc
   rw[this];exact e3
  ·have:(Ty.sl e b::ts).filter Ty.isSl=Ty.sl e b::ts.filter Ty.isSl:=rfl;refine⟨by simp[e1],by simp[e2],by rw[this];simp[e3]⟩
theorem Wc:∀(ps:List Par) (vs:List SV) (xs:List At),Kp st Z ps vs= .ok xs->∃cs:List (List At),xs=cs.flatten/\cs.length=ps.length/\vs.length=ps.length/\∀(i:Nat) (p:Par),ps[i]? =some p->∃c v,cs[i]? =some c/\vs[i]? =some v/\Pr st Z p v= .ok c
 | [],[],xs,h=>by simp only[Kp,Ag]at h;subst h;exact⟨[],rfl,rfl,rfl,fun i p h=>by simp at h⟩
 | p::ps,v::vs,xs,h=>by
  simp only[Kp]at h;obtain⟨c,hc,h⟩:=Al h;obtain⟨ys,hys,h⟩:=Al h;simp only[Ag]at h;subst h;obtain⟨cs,rfl,e1,e2,e3⟩:=Wc ps vs ys hys;refine⟨c::cs,rfl,by simp[e1],by simp[e2],fun i q hq=> ?_⟩;cases i with
  | zero=>simp only[List.getElem?_cons_zero,Ah]at hq;subst hq;exact⟨c,v,rfl,rfl,hc⟩
  | succ i=>simpa using e3 i q (by simpa using hq)
 | [],_::_,_,h=>by simp[Kp]at h
 | _::_,[],_,h=>by simp[Kp]at h
def Wd (st:St):Par->SV->M (List Nat)
 | .own agg t _,v=>do
  let cs<-Aas agg v
  let x<-st.ownVals t.leaves cs
  .ok x.2
 | .iob e t,v=>do
  let x<-st.boxVals e t v
  .ok x.2
 | .tok e b,v=>do
  let x<-st.tokVal e b v
  .ok [x.2]
 | _,_=> .ok []
theorem Asl {p:Par}{v:SV}{rs:List Nat}(h:Wd st p v= .ok rs):rs.length=p.nroots:=by
 cases p with
 | own agg t io=>
  simp only[Wd]at h;obtain⟨cs,_,h⟩:=Al h;have hb0:=Al h
  clear h
  obtain⟨⟨ys,rs'⟩,hx,h⟩:=hb0;cases h;exact(R8 _ _ _ _ hx).2.2
 | iob e t=>
  simp only[Wd]at h;have hb0:=Al h
  clear h
  obtain⟨⟨ys,rs'⟩,hx,h⟩:=hb0;cases h;obtain⟨r,cells,rs2,_,_,h1,rfl⟩:=Ni hx;have:=(R7 _ _ _ _ h1).2.2;simp only[Ab,this,Par.nroots,Ty.sls];omega
 | tok e b=>
  simp only[Wd]at h;have hb0:=Al h
  clear h
  obtain⟨⟨y,r⟩,hx,h⟩:=hb0;cases h;rfl
 | _=>simp only[Wd]at h;cases h;rfl
theorem Abp {p:Par}{ps:List Par}{v:SV}{vs:List SV}{R:List Nat}(h:Ch st (p::ps) (v::vs)= .ok R):∃R0 R',R=R0++R'∧Wd st p v= .ok R0/\Ch st ps vs= .ok R' :=by
 cases p with
 | own agg t io=>
  simp only[Ch]at h;obtain⟨cs,hcs,h⟩:=Al h;obtain⟨⟨ys,rs⟩,hx,h⟩:=Al h;have hb0:=Al h
  clear h
  obtain⟨R',hR',h⟩:=hb0;cases h;exact⟨rs,R',rfl,by simp only[Wd,hcs,hx,bind,Except.bind],hR'⟩
 | iob e t=>
  simp only[Ch]at h;obtain⟨⟨ys,rs⟩,hx,h⟩:=Al h;have hb0:=Al h
  clear h
  obtain⟨R',hR',h⟩:=hb0;cases h;exact⟨rs,R',rfl,by simp only[Wd,hx,bind,Except.bind],hR'⟩
 | tok e b=>
  simp only[Ch]at h;obtain⟨⟨y,r⟩,hx,h⟩:=Al h;have hb0:=Al h
  clear h
  obtain⟨R',hR',h⟩:=hb0;cases h;exact⟨[r],R',rfl,by simp only[Wd,hx,bind,Except.bind],hR'⟩
 | _=>exact⟨[],R,rfl,rfl,h⟩
theorem Hz:∀(ps:List Par) (vs:List SV) (R:List Nat),Ch st ps vs= .ok R->∀(i:Nat) (v:SV) (p:Par),ps[i]? =some p->vs[i]? =some v->∃rs,Wd st p v= .ok rs/\∀j r,rs[j]? =some r->R[nb ps i+j]? =some r
 | [],[],R,h=>fun i v p h=>by simp at h
 | p::ps,v0::vs,R,h=>fun i v q hp hv=>by
  obtain⟨R0,R',rfl,h1,h2⟩:=Abp h;have hl:=Asl h1;cases i with
  | zero=>
   simp only[List.getElem?_cons_zero,Ah]at hp hv;subst hp hv;refine⟨R0,h1,fun j r hj=> ?_⟩;rw[Z3,Nat.zero_add,List.getElem?_append_left (List.getElem?_eq_some_iff.1 hj).1];exact hj
  | succ i=>
   obtain⟨rs,q1,q3⟩:=Hz ps vs R' h2 i v q (by simpa using hp) (by simpa using hv);refine⟨rs,q1,fun j r hj=> ?_⟩;rw[Z4,List.getElem?_append_right (by omega),show p.nroots+nb ps i+j - R0.length=nb ps i+j from by omega];exact q3 j r hj
 | [],_::_,_,h=>by simp[Ch]at h
 | p::ps,[],_,h=>by cases p<;>simp[Ch]at h
theorem Uc (ps:List Par)(vs:List SV)(R:List Nat)(h:Ch st ps vs= .ok R)(i:Nat)(v:SV)(agg:Bool)(t:Ty)(io:Bool)(hp:ps[i]? =some (.own agg t io))(hv:vs[i]? =some v):∃cs ys rs,Aas agg v= .ok cs/\st.ownVals t.leaves cs= .ok (ys,rs)/\∀j r,rs[j]? =some r->R[nb ps i+j]? =some r:=by
 obtain⟨rs,h1,h2⟩:=Hz ps vs R h i v _ hp hv;simp only[Wd]at h1;obtain⟨cs,hcs,h1⟩:=Al h1;obtain⟨⟨ys,rs'⟩,hx,h1⟩:=Al h1;cases h1;exact⟨cs,ys,rs',hcs,hx,h2⟩
theorem R9:∀(ts:List Ty) (caps:List SC) (xs:List At),Pq st Z ts caps= .ok xs->∃cs:List (List At),xs=cs.flatten/\cs.length=ts.length/\caps.length=ts.length/\
 ∀(k:Nat) (t:Ty),ts[k]? =some t->∃c y ds,caps[k]? =some c/\cs[k]? =some y/\st.ptrCells Z c= .ok ds/\st.argVals Z t.leaves ds= .ok y
 | [],[],xs,h=>by simp only[Pq,Ag]at h;subst h;exact⟨[],rfl,rfl,rfl,fun k t h=>by simp at h⟩
 | t::ts,c::caps,xs,h=>by
  simp only[Pq]at h;obtain⟨ds,hds,h⟩:=Al h;obtain⟨y,hy,h⟩:=Al h;obtain⟨ys,hys,h⟩:=Al h;simp only[Ag]at h;subst h;obtain⟨cs,rfl,e1,e2,e3⟩:=R9 ts caps ys hys;refine⟨y::cs,rfl,by simp[e1],by simp[e2],fun k u hu=> ?_⟩;cases k with
  | zero=>simp only[List.getElem?_cons_zero,Ah]at hu;subst hu;exact⟨c,y,ds,rfl,rfl,hds,hy⟩
  | succ k=>simpa using e3 k u (by simpa using hu)
 | [],_::_,_,h=>by simp[Pq]at h
 | _::_,[],_,h=>by simp[Pq]at h
theorem Ai7 {ts:List Ty}{cs:List (List At)}(h:∀(k:Nat) (t:Ty),ts[k]? =some t->∃y,cs[k]? =some y/\y.length=t.n)(hl:cs.length=ts.length):cs.flatten.length=(I5 ts).n:=by
 have:=(To ts (cs.map (·.map fun _=>V.u)) (fun k t c h1 h2=>by
  rw[List.getElem?_map,Option.map_eq_some_iff]at h2;obtain⟨y,hy,rfl⟩:=h2;obtain⟨y',hy',hl'⟩:=h k t h1;rw[hy]at hy';cases hy'
  rw[Ae];exact hl') (by simp[hl])).1
 rw[<-this,<-List.map_flatten,Ae]
theorem Nj {p:Par}{v:SV}{c:List At}(h:Pr st Z p v= .ok c):c.length=p.ty.n:=by
 unfold Pr at h;split at h
 ·rename_i agg t;obtain⟨cs,_,h⟩:=Al h;obtain⟨_,e,_⟩:=Iy _ _ _ h;rw[e,Ba];rfl
 ·rename_i t;split at h
  ·obtain⟨cs,_,h⟩:=Al h;obtain⟨_,e,_⟩:=Iy _ _ _ h;rw[e,Ba];rfl
  ·cases h
 ·rename_i agg t io;obtain⟨cs,_,h⟩:=Al h;obtain⟨⟨ys,rs⟩,hx,h⟩:=Al h;simp only[Ag]at h;subst h;obtain⟨e,_,_⟩:=R8 _ _ _ _ hx;rw[e,Ba];rfl
 ·split at h
  ·split at h
   ·obtain⟨cs,rfl,e1,e2,e3⟩:=R9 _ _ _ h;refine Ai7 (fun k t ht=> ?_) e1;obtain⟨c,y,ds,_,q2,_,q4⟩:=e3 k t ht;obtain⟨_,e,_⟩:=Iy _ _ _ q4;exact⟨y,q2,by rw[e,Ba]⟩
   ·cases h
  ·cases h
 ·have hb0:=Al h
  clear h
  obtain⟨⟨ys,rs⟩,hx,h⟩:=hb0;cases h;obtain⟨r,cells,rs2,_,_,h1,_⟩:=Ni hx;rw[(R7 _ _ _ _ h1).1,Ba];rfl
 ·have hb0:=Al h
  clear h
  obtain⟨⟨y,r⟩,hx,h⟩:=hb0;cases h;rfl
theorem G0 (rg:Rg)(n:Nat):∀(t:Ty) (p:List Bool),(cellsOf rg n p t).length=t.n
 | .int _,_=>rfl
 | .bool,_=>rfl
 | .unit,_=>rfl
 | .sl _ _,_=>rfl
 | .mp,_=>rfl
 | .pr a b,p=>by simp only[cellsOf,Ad,G0 rg n a,G0 rg n b,Ty.n]
theorem Ayc (hi:Aw X D st ρ a w g){sg:Sig}{vs:List SV}{xs:List At}(hR:Ch st sg.ps vs= .ok R)(hx:Kp st Z sg.ps vs= .ok xs)(hnd:Ft R=true)(hZ:∀r,R.contains r=true->Z r=true){argv:Array Value}(hsz:argv.size=vs.length)
 (hv:∀(i:Nat) (sv:SV),vs[i]? =some sv->Bp X.P w g (sv.enc ρ) (argv.getD i undef)):Pre X.P sg (mkv sg.p (xs.map (At.get ρ))).1 w (El g R Z) argv:=by
 obtain⟨cs,rfl,e1,e2,e3⟩:=Wc _ _ _ hx;have hok:=hi.inv.ok;have hfl:cs.flatten.map (At.get ρ)=(cs.map (·.map (At.get ρ))).flatten:=by rw[List.map_flatten]
 rw[hfl];obtain⟨_,hproj⟩:=To (sg.ps.map Par.ty) (cs.map (·.map (At.get ρ))) (fun k t c h1 h2=>by
  rw[List.getElem?_map,Option.map_eq_some_iff]at h1 h2;obtain⟨p,hp,rfl⟩:=h1;obtain⟨c',hc',rfl⟩:=h2;obtain⟨c2,v,q1,q2,q3⟩:=e3 k p hp;rw[hc']at q1;cases q1
  rw[Ae];exact Nj q3) (by simp[e1])
 generalize hx0:(mkv sg.p (cs.map (·.map (At.get ρ))).flatten).1=x0;have hx0' :(mkv (I5 (sg.ps.map Par.ty)) (cs.map (·.map (At.get ρ))).flatten).1=x0:=hx0;rw[hx0']at hproj;have hget:∀(i:Nat) (p:Par) (c:List At),sg.ps[i]? =some p->cs[i]? =some c->Ref.get [⟨sg.p,x0⟩] ⟨0,Be sg.ps.length i⟩=⟨p.ty,(mkv p.ty (c.map (At.get ρ))).1⟩:=fun i p c h1 h2=>by
  have:=hproj i p.ty (c.map (At.get ρ)) (by rw[List.getElem?_map,h1];rfl) (by rw[List.getElem?_map,h2];rfl);rw[Ae]at this;exact this
 have hleaf:∀(i:Nat) (p:Par) (c:List At),sg.ps[i]? =some p->cs[i]? =some c->c.length=p.ty.n->∀(k:Nat) (u:Ty) (pth:List Bool) (y:At),(p.ty.lp (Be sg.ps.length i))[k]? =some (u,pth)->c[k]? =some y->Ref.get [⟨sg.p,x0⟩] ⟨0,pth⟩=⟨u,(mkv u [y.get ρ]).1⟩:=fun i p c h1 h2 hl k u pth y h3 h4=>by
  obtain⟨q1,q2⟩:=Ayb h3;exact Ai3 p.ty (c.map (At.get ρ)) (Be sg.ps.length i) ⟨sg.p,x0⟩ (by rw[Ae];exact hl) (hget i p c h1 h2) k pth u (y.get ρ) q2 q1 (by rw[List.getElem?_map,h4];rfl)
 refine⟨by rw[hsz,e2],fun i=> ?_,fun l row hl=> ?_,fun b hb=> ?_,fun b l hl=> ?_⟩
 ·have hsl:(Fj sg).slot i=((sg.ps[i]?).map (Vp sg.ps.length (0+i) (0+nb sg.ps i))).getD .junk:=by
   unfold St.slot Fj;simp only[List.getD];rw[N6]
  rw[hsl];cases hp:sg.ps[i]? with
  | none=>trivial
  | some p=>
   obtain⟨c,v,q1,q2,q3⟩:=e3 i p hp;have hrep:=hv i v q2;have hcl:=Nj q3;have hg:=hget i p c hp q1;have hlf:=hleaf i p c hp q1 hcl;simp only[Option.map_some,Option.getD_some,Nat.zero_add];unfold Pr at q3;split at q3
   ·rename_i agg t;obtain⟨ds,hds,q3⟩:=Al q3;obtain⟨l1,l2,l3⟩:=R6 hi q3;refine Ai5 hds hrep (by rw[G0,l2]) fun k q hq=> ?_
    rw[Fu none 0 _ t _ _ hg]at hq;exact l3 k q hq
   ·rename_i t;split at q3
    ·rename_i c0;obtain⟨ds,hds,q3⟩:=Al q3;obtain⟨l1,l2,l3⟩:=R6 hi q3;refine Anu hi hds hrep (by rw[G0,l2]) fun k q hq=> ?_
     rw[Fu none 0 _ t _ _ hg]at hq;exact l3 k q hq
    ·cases q3
   ·rename_i agg t io;obtain⟨ds,hds,q3⟩:=Al q3;obtain⟨⟨ys,rs⟩,hx,q3⟩:=Al q3;simp only[Ag]at q3;subst q3;obtain⟨ds',ys',rs',r1,r2,r3⟩:=Uc _ _ _ hR i v agg t io hp q2;rw[hds]at r1;cases r1
    rw[hx]at r2;cases r2
    obtain⟨o1,o2,o3,o4,o5,_⟩:=Z2 (nl' :=false) (Z:=Z) hi (t.lp (Be sg.ps.length i)) ds ys rs (nb sg.ps i) (by rw[Abo];exact hx) hlf r3;exact Ai5 hds hrep (by rw[o4,o1]) o5
   ·rename_i f ts;split at q3
    ·rename_i f' caps;split at q3
     ·rename_i hff;subst hff;obtain⟨ys,rfl,c1,c2,c3⟩:=R9 _ _ _ q3;have hrep:Au w g (.fn f (Ay ρ caps)) (argv.getD i undef):=hrep;have hfl2:ys.flatten.map (At.get ρ)=(ys.map (·.map (At.get ρ))).flatten:=by rw[List.map_flatten]
      obtain⟨_,hpj⟩:=To ts (ys.map (·.map (At.get ρ))) (fun k t c h1 h2=>by
       rw[List.getElem?_map,Option.map_eq_some_iff]at h2;obtain⟨y,hy,rfl⟩:=h2;obtain⟨_,y',_,_,q5,_,q6⟩:=c3 k t h1;rw[hy]at q5;cases q5
       obtain⟨_,e,_⟩:=Iy _ _ _ q6;rw[Ae,e,Ba]) (by simp[c1])
      rw[<-hfl2]at hpj;generalize argv.getD i undef=u at hrep ⊢;cases hrep with
      | fn _ _ vs hs hr=>
       show Au w (El g R Z) (.fn f (Ay [⟨sg.p,x0⟩] (ts.zipIdx.map fun x=> .rp none (cellsOf none 0 (Be sg.ps.length i++Be ts.length x.2) x.1)))) _;refine .fn f _ vs (by rw[hs,An,An];simp[c2]) fun k q hq=> ?_
       rw[An,List.map_map,List.getElem?_map,Option.map_eq_some_iff]at hq;obtain⟨⟨t,k'⟩,hk,rfl⟩:=hq;rw[List.getElem?_zipIdx,Option.map_eq_some_iff]at hk;obtain⟨t',ht',hk⟩:=hk;simp only[Prod.mk.injEq,Nat.zero_add]at hk;obtain⟨rfl,rfl⟩:=hk;obtain⟨c0,y,ds,p1,p2,p3,p4⟩:=c3 k t' ht';obtain⟨l1,l2,l3⟩:=R6 hi p4;have hgk:Ref.get [⟨sg.p,x0⟩] ⟨0,Be sg.ps.length i++Be ts.length k⟩=⟨t',(mkv t' (y.map (At.get ρ))).1⟩:=by
        have h1:=hpj k t' (y.map (At.get ρ)) ht' (by rw[List.getElem?_map,p2];rfl);have h2:Ref.get [⟨sg.p,x0⟩] ⟨0,Be sg.ps.length i++Be ts.length k⟩=(Ref.get [⟨sg.p,x0⟩] ⟨0,Be sg.ps.length i⟩).proj (Be ts.length k):=by
         simp only[Ref.get,Fl]
        rw[h2,hg];exact h1
       simp only[Function.comp,SC.enc];refine Anu hi p3 (hr k (c0.enc ρ) (by rw[An,List.getElem?_map,p1];rfl)) (by rw[G0,l2]) fun k2 q2 hq2=> ?_
       rw[Fu none 0 _ t' _ _ hgk]at hq2;exact l3 k2 q2 hq2
     ·cases q3
    ·cases q3
   ·rename_i e t;have hb0:=Al q3
    clear q3
    obtain⟨⟨ys,rs⟩,hx,q3⟩:=hb0;cases q3;obtain⟨rs',r1,r2⟩:=Hz _ _ _ hR i v _ hp q2;simp only[Wd,hx,bind,Except.bind,Ag]at r1;subst r1;obtain⟨r,cells,rs2,rfl,_,_,rfl⟩:=Ni hx;have hRj:=r2 0 r rfl;rw[Nat.add_zero]at hRj;have hrep:Au w g (.hd (r,[])) (argv.getD i undef):=by simpa[SV.enc,SC.enc,Bp]using hrep
    show Au w (El g R Z) (.hd (nb sg.ps i,[])) _;exact .hd _ _ ((Cu hrep).trans (Kw hRj []).symm)
   ·rename_i e t;have hb0:=Al q3
    clear q3
    obtain⟨⟨y,r⟩,hx,q3⟩:=hb0;cases q3;obtain⟨rs',r1,r2⟩:=Hz _ _ _ hR i v _ hp q2;simp only[Wd,hx,bind,Except.bind,Ag]at r1;subst r1;obtain⟨rfl,hty⟩:=Alv hx;have hRj:=r2 0 r rfl;rw[Nat.add_zero]at hRj;have hrep:Au w g ((SC.tk r y).enc ρ) (argv.getD i undef):=hrep;show Au w (El g R Z) ((SC.tk (nb sg.ps i) (.r ⟨0,Be sg.ps.length i⟩)).enc [⟨sg.p,x0⟩]) _;exact hrep.rel Asj Anv (Ask hRj (hg.trans (Kv _ rfl (At.ty_get hi.typ hty))))
 ·obtain⟨j,pp⟩:=l;have hl:RK.rows [⟨sg.p,x0⟩] j ((Fj sg).rk j) pp=some row:=hl;cases hj:(J1 sg.ps.length 0 0 sg.ps)[j]? with
  | none=>
   have:(Fj sg).rk j= .dead:=by unfold St.rk Fj;simp only[List.getD,hj];rfl
   rw[this,Bj]at hl;cases hl
  | some k' =>
   have hk' :(Fj sg).rk j=k' :=by unfold St.rk Fj;simp only[List.getD,hj];rfl
   rw[hk']at hl;obtain⟨i,p,q,hp,hq,rfl⟩:=N7 _ _ _ _ _ _ hj;rw[Nat.zero_add,Nat.zero_add]at hq;cases p with
   | own agg t io=>
    obtain⟨c,v,q1,q2,q3⟩:=e3 i _ hp;have hcl:=Nj q3;have hlf:=hleaf i _ c hp q1 hcl;simp only[Pr]at q3;obtain⟨ds,hds,q3⟩:=Al q3;obtain⟨⟨ys,rs⟩,hx,q3⟩:=Al q3;simp only[Ag]at q3;subst q3;obtain⟨ds',ys',rs',r1,r2,r3⟩:=Uc _ _ _ hR i v agg t io hp q2;rw[hds]at r1;cases r1
    rw[hx]at r2;cases r2
    obtain⟨_,_,_,_,_,o6⟩:=Z2 (nl' :=false) (Z:=Z) hi (t.lp (Be sg.ps.length i)) ds ys rs (nb sg.ps i) (by rw[Abo];exact hx) hlf r3;obtain⟨r,e,b,y,pth,nl,s1,s2,s3,rfl,s5⟩:=o6 q k' hq;have hRj:=r3 q r s1;obtain⟨row0,hrow0,hrel⟩:=Abi (ml:=fun l l' =>l.1=r/\l'.1=nb sg.ps i+q/\l.2=l'.2) (mr:=fun _ _=>False) (r:=r) (x:=y) (ρ:=ρ) (nl:=nl) s5 (fun h=>by cases h) (fun p _=>⟨rfl,rfl,rfl⟩) (.inl s3) hl;have hrr:=hi.inv.row (r,pp) row0 (by show RK.rows ρ r (st.rk r) pp=_;rw[s2];exact hrow0);have hh:∀l l' :Loc,(l.1=r/\l'.1=nb sg.ps i+q/\l.2=l'.2)->(El g R Z).hdr l' =g.hdr l:=fun l l' ⟨h1,h2,h3⟩=>by
     obtain⟨l1,l2⟩:=l;obtain⟨l3,l4⟩:=l';simp only at h1 h2 h3;subst h1 h2 h3;exact Kw hRj l2
    have ho:∀b,g.own b=some (r,pp)->(El g R Z).own b=some (nb sg.ps i+q,pp)/\w.heap[b]? =w.heap[b]? :=fun b hb=>⟨by simp only[El,hb,O2 hnd hRj];rfl,rfl⟩
    exact hrr.rel hh (fun _ _ h=>h.elim) (Kw hRj pp) ho hrel
   | iob e t=>
    obtain⟨c,v,q1,q2,q3⟩:=e3 i _ hp;have hcl:=Nj q3;have hlf:=hleaf i _ c hp q1 hcl;simp only[Pr]at q3;have hb0:=Al q3
    clear q3
    obtain⟨⟨ys,rs⟩,hx,q3⟩:=hb0;cases q3;obtain⟨rs',r1,r2⟩:=Hz _ _ _ hR i v _ hp q2;simp only[Wd,hx,bind,Except.bind,Ag]at r1;subst r1;obtain⟨r,cells,rs2,rfl,hrk,htv,rfl⟩:=Ni hx;simp only[I6]at hq;cases q with
    | succ q=>
     simp only[List.getElem?_cons_succ,List.getElem?_replicate]at hq;split at hq
     ·cases hq;rw[Bj]at hl;cases hl
     ·cases hq
    | zero=>
     simp only[List.getElem?_cons_zero,Ah]at hq;subst hq;rw[Nat.add_zero]at hl ⊢;have hRj:=r2 0 r rfl;rw[Nat.add_zero]at hRj;obtain⟨t1,t2,t3,t4,t5⟩:=Agr (R:=R) (ρ' :=[⟨sg.p,x0⟩]) hi (t.lp (Be sg.ps.length i)) cells ys rs2 (nb sg.ps i+1) (by rw[Abo];exact htv) hlf (fun j r' hj=>by
      have:=r2 (j+1) r' (by simpa using hj)
      rwa [show nb sg.ps i+1+j=nb sg.ps i+(j+1)from by omega])
     cases pp with
     | cons _ _=>simp[RK.rows]at hl
     | nil=>
      simp only[RK.rows,Ah]at hl;subst hl;have hrr:=hi.inv.row (r,[]) (.row true false e [Ay ρ cells]) (by simp only[hrk,RK.rows]);refine hrr.rel Asj Anv (Kw hRj []) (fun b hb=>⟨by simp only[El,hb,O2 hnd hRj];rfl,rfl⟩) (.row _ _ _ _ _ _ (fun h=>h) rfl (fun i c c' q1 q2=> ?_) (fun i c c' k x x' q1 q2 q3 q4=> ?_))
      ·cases i with
       | zero=>cases q1;cases q2;rw[An,An,Ae,Ae,t4,t1]
       | succ i=>cases q1
      ·cases i with
       | zero=>cases q1;cases q2;exact t5 k x x' q3 q4
       | succ i=>cases q1
   | tok e t=>
    simp only[I6]at hq;cases q with
    | succ q=>simp at hq
    | zero=>cases hq;rw[Bj]at hl;cases hl
   | _=>simp[I6]at hq
 ·rcases hb with hb | ⟨l,hl,_⟩
  ·exact(hok.S b hb).1
  ·exact(hok.own b l hl).2.1
 ·obtain⟨l0,h0,h1,_,_⟩:=V8 hl;refine⟨(hok.own b l0 h0).2.1,fun hS=> ?_⟩;rcases hS with hS | ⟨l1,h2,h3⟩
  ·exact(hok.own b l0 h0).2.2 hS
  ·rw[h0]at h2;cases h2;rw[hZ _ h1]at h3;cases h3
end
end Go.Pu
/-
  Own work. Calls, the way out.
-/
namespace Go.Pu
open Go Go.RowKit
set_option linter.unusedVariables false
set_option linter.unusedSectionVars false
def Ud (ph pr:Nat->Bool)(l:Loc):Prop:=ph l.1=true/\(l.2=[]\/pr l.1=true)
section
variable {ph pr:Nat->Bool} {ρ:Env}
mutual
theorem SC.okR_ok2:∀(c:SC),c.okR ph pr=true->C.Ok (Ud ph pr) (Ox pr) (c.enc ρ)
 | .v x,_=>by simp only[SC.enc];exact Axc _
 | .s none x,_=>by simp only[SC.enc];exact Lf (fun r h=>by cases h) _
 | .s (some r) x,h=>by simp only[SC.okR]at h;simp only[SC.enc];exact Lf (fun r' h' =>by cases h';exact h) _
 | .nil,_=>by simp only[SC.enc];exact .nil
 | .h r,h=>by simp only[SC.okR]at h;simp only[SC.enc];exact .hd _ ⟨h,.inl rfl⟩
 | .hn r i k x,h=>by
  simp only[SC.okR,Ai]at h;simp only[SC.enc]
  exact .both _ _ (.hd _ ⟨h.1,.inr h.2⟩) (Lf (fun r' h' =>by cases h';exact h.2) _)
 | .hs r lo hi x,h=>by
  simp only[SC.okR,Ai]at h;simp only[SC.enc]
  exact .both _ _ (.sub _ _ _ _ ⟨h.1,.inl rfl⟩) (Lf (fun r' h' =>by cases h';exact h.2) _)
 | .tk r x,h=>by simp only[SC.okR]at h;simp only[SC.enc];exact .both _ _ (.hd _ ⟨h,.inl rfl⟩) (Lf (fun r h=>by cases h) _)
 | .rp rg cells,h=>by
  simp only[SC.okR,Ai]at h;simp only[SC.enc]
  exact .rp _ _ (fun r h' =>by subst h';exact h.1) (P8 cells h.2)
 | .fn f caps,h=>by simp only[SC.okR]at h;simp only[SC.enc];exact .fn _ _ (P8 caps h)
 | .gone,_=>by simp only[SC.enc];exact .gone
theorem P8:∀(cs:List SC),okL ph pr cs=true->∀(k:Nat) (q:C),(Ay ρ cs)[k]? =some q->C.Ok (Ud ph pr) (Ox pr) q
 | [],_,k,q,hq=>by simp[Ay]at hq
 | c::cs,h,0,q,hq=>by
  simp only[okL,Ai]at h;simp only[Ay,List.getElem?_cons_zero,Ah]at hq;subst hq;exact SC.okR_ok2 c h.1
 | c::cs,h,k+1,q,hq=>by
  simp only[okL,Ai]at h;simp only[Ay,List.getElem?_cons_succ]at hq;exact P8 cs h.2 k q hq
end
theorem SV.okR_ok2 (v:SV)(h:v.okR ph pr=true):PV.Ok (Ud ph pr) (Ox pr) (v.enc ρ):=by
 cases v with
 | c x=>exact SC.okR_ok2 x h
 | agg xs=>exact P8 xs h
 | ad r e i k=>exact⟨h,.inl rfl⟩
 | ra rg cells=>
  simp only[SV.okR,Ai]at h;exact⟨fun r h' =>by subst h';exact h.1,P8 cells h.2⟩
 | tup rs=>
  simp only[SV.okR,List.all_eq_true]at h;intro k r hr;rw[List.getElem?_map,Option.map_eq_some_iff]at hr;obtain⟨y,hy,rfl⟩:=hr;have h1:=P8 (ρ:=ρ) y.2 (h y (List.mem_of_getElem? hy));unfold Jy;split
  ·exact h1
  ·split
   ·rename_i c cs hc;exact h1 0 c (by rw[hc];rfl)
   ·exact .gone
 | und=>trivial
 | junk=>trivial
theorem RK.okR_ok2 {r:Nat}(k:RK)(h:k.okR ph pr=true)(hr:ph r=true/\pr r=true)(p:List (Nat×Nat))(row:Row)(hrow:k.rows ρ r p=some row):Row.Ok (Ud ph pr) (Ox pr) row:=by
 cases k with
 | box e cells=>
  cases p with
  | cons q p=>simp[RK.rows]at hrow
  | nil=>
   simp only[RK.rows,Ah]at hrow;subst hrow;intro i cs k q h1 h2;cases i with
   | zero=>cases h1;exact P8 cells h k q h2
   | succ i=>cases h1
 | list e b v nl inner=>
  refine RK.okR_ok (ph:=fun _=>false) (pl:=Ud ph pr) (ρ:=ρ) (r:=r) _ ?_ (fun p _=>⟨hr.1,.inr hr.2⟩) (fun l hl=>by simp[I8]at hl) p row hrow;cases inner with
  | none=>rfl
  | some rg=>cases rg with
   | none=>rfl
   | some r2=>exact h
 | _=>exact RK.okR_ok (ph:=fun _=>false) (pl:=Ud ph pr) (ρ:=ρ) (r:=r) _ rfl (fun p _=>⟨hr.1,.inr hr.2⟩) (fun l hl=>by simp[I8]at hl) p row hrow
end
section
variable {X:Ctx} {D:Nat->Prop} {Γ:List FE} {st:St} {ρ:Env} {a:Act} {w:World} {g:G}
theorem Abq (hd:∀b,¬D b):∀(l:List (Nat×Bool)) (st:St),Aw X D st ρ a w g->Aw X D (Nd l st) ρ a w g
 | [],st,h=>h
 | (r,io)::l,st,h=>by
  simp only[Nd];split
  ·rename_i hc;simp only[Ai,Bool.or_eq_true,Bool.not_eq_true']at hc;refine Abq hd l _ ?_
   exact h.mut hc.1 (all:= !io) (r:=r) ⟨fun _ _ _ _=>rfl,fun _ _ _ b hb=>⟨hb,rfl⟩⟩ h.inv.ok .dead (fun p row hp=>by rw[Bj]at hp;cases hp) (fun e=>by
    rcases hc.2 with hc | hc
    ·rw[hc]at e;cases e
    ·exact hc) (fun b l _ hb=>⟨hb,rfl⟩) st.dirty h.dirt
  ·exact Abq hd l st h
theorem Abr:∀(l:List (Nat×Bool)) (st:St),(Nd l st).ts=st.ts/\(Nd l st).fix=st.fix
 | [],st=>⟨rfl,rfl⟩
 | (r,io)::l,st=>by
  simp only[Nd];split
  ·have:=Abr l ((st.kill (!io) r).setR r .dead);exact⟨this.1,this.2⟩
  ·exact Abr l st
end
def imR (n:Nat)(f:Nat->Nat)(x:Bool×List SC):Bool×List SC:=(x.1,x.2.map (SC.im n f))
def SC.plain:SC->Bool
 | .v (.r q)=>Nat.beq q.n 0
 | .h _=>true
 | .gone=>true
 | _=>false
def RK.plain (z:Bool):RK->Bool
 | .box _ cs=>cs.all SC.plain
 | .list _ a (.r q) _ none=>Nat.beq q.n 0 && a.flat1
 | .list _ a (.r q) _ (some none)=>z && Nat.beq q.n 0
 | .dead=>true
 | _=>false
theorem Abs {n r r' :Nat}{f:Nat->Nat}(hf:∀j,f (r+j)=r' +j):∀(ls:List (Ty×List Bool)) (k:Nat),Iq n ls (r' +k)=(Iq 0 ls (r+k)).map (SC.im n f)
 | [],k=>rfl
 | (t,p)::ls,k=>by
  cases t with
  | sl e a=>simp only[Iq,List.map_cons,SC.im,hf];rw[Nat.add_assoc,Nat.add_assoc,Abs hf ls (k+1)]
  | _=>simp only[Iq,List.map_cons,SC.im];rw[Abs hf ls k]
theorem Sa {n m r r' :Nat}{f:Nat->Nat}(hf:∀j,f (r+j)=r' +j):∀(rs:List Res) (i k:Nat),Is n m i (r' +k) rs=(Is 0 m i (r+k) rs).map (imR n f)
 | [],i,k=>rfl
 | .val agg t nl::rs,i,k=>by
  simp only[Is,List.map_cons,imR];rw[Abs hf,Nat.add_assoc,Nat.add_assoc,Sa hf rs (i+1) (k+t.sls)]
 | .ptr e t::rs,i,k=>by
  simp only[Is,List.map_cons,imR,List.map_nil,SC.im];rw[show r+k+t.sls=r+(k+t.sls)from by omega,hf,show r' +k+t.sls+1=r' +(k+t.sls+1)from by omega,show r+(k+t.sls)+1=r+(k+t.sls+1)from by omega,Sa hf rs (i+1) (k+t.sls+1)];simp only[Nat.add_assoc]
 | .ptrK e t tk::rs,i,k=>by
  simp only[Is,List.map_cons,imR,List.map_nil,SC.im];rw[hf,show r' +k+1=r' +(k+1)from by omega,show r+k+1=r+(k+1)from by omega,Sa hf rs (i+1) (k+1)]
 | .frz e a nl::rs,i,k=>by
  simp only[Is,List.map_cons,imR,List.map_nil,SC.im];rw[hf,show r' +k+1=r' +(k+1)from by omega,show r+k+1=r+(k+1)from by omega,Sa hf rs (i+1) (k+1)]
theorem Iz {pth:Nat->List Bool}:∀(ls:List Ty) (r s:Nat),(T9 0 pth ls r s).all SC.plain=true
 | [],_,_=>rfl
 | t::ls,r,s=>by
  cases t with
  | sl e a=>simp only[T9,List.all_cons,Iz ls,Bool.and_true];rfl
  | int k=>simp only[T9,Ty.scalar,if_true,List.all_cons,Iz ls,Bool.and_true];rfl
  | bool=>simp only[T9,Ty.scalar,if_true,List.all_cons,Iz ls,Bool.and_true];rfl
  | _=>simp only[T9,Ty.scalar,Bool.false_eq_true,if_false,List.all_cons,Iz ls,Bool.and_true];rfl
theorem Sb:∀(ls:List (Ty×List Bool)) (r:Nat),(Iq 0 ls r).all SC.plain=true
 | [],_=>rfl
 | (t,p)::ls,r=>by cases t<;>simp only[Iq,List.all_cons,Sb ls,Bool.and_true]<;>rfl
theorem P9:∀(t:Ty),t.flat2=true->∀u∈t.leaves,u.flat2=true
 | .pr a b,h,u,hu=>by
  simp only[Ty.flat2,Ai]at h;simp only[Ty.leaves,List.mem_append]at hu;rcases hu with hu | hu
  ·exact P9 a h.1 u hu
  ·exact P9 b h.2 u hu
 | .int k,h,u,hu=>by simp only[Ty.leaves,List.mem_singleton]at hu;subst hu;exact h
 | .bool,h,u,hu=>by simp only[Ty.leaves,List.mem_singleton]at hu;subst hu;exact h
 | .unit,h,u,hu=>by simp[Ty.leaves]at hu
 | .sl e a,h,u,hu=>by simp only[Ty.leaves,List.mem_singleton]at hu;subst hu;exact h
 | .mp,h,u,hu=>by simp only[Ty.leaves,List.mem_singleton]at hu;subst hu;exact h
theorem Nk {nl z:Bool}:∀(ls:List (Ty×List Bool)),(∀x∈ls,x.1.flat2=true)->(Ht nl 0 ls).all (RK.plain z)=true
 | [],_=>rfl
 | (t,p)::ls,h=>by
  have ih:=Nk (nl:=nl) (z:=z) ls (fun x hx=>h x (List.mem_cons_of_mem _ hx));have h0:=h (t,p) List.mem_cons_self;cases t with
  | sl e a=>
   simp only[Ht,List.all_cons,ih,Bool.and_true];simp only[Ty.flat2]at h0;simp[RK.plain,h0]
  | _=>simp only[Ht];exact ih
theorem Ai8 {t:Ty}{p:List Bool}(h:t.flat2=true):∀x∈t.lp p,x.1.flat2=true:=fun x hx=>by
 have:x.1∈(t.lp p).map (·.1):=List.mem_map_of_mem hx;rw[Abo]at this;exact P9 t h _ this
theorem Kx {m:Nat}{z:Bool}:∀(rs:List Res) (i r:Nat),rs.all Res.okT=true->(rs.any Res.isFz=true->z=true)->(Oo 0 m i r rs).all (RK.plain z)=true
 | [],_,_,_,_=>rfl
 | .val agg t nl::rs,i,r,h,hz=>by
  simp only[List.all_cons,Ai,Res.okT,Res.ty]at h;simp only[Oo,List.all_append,Ai];exact⟨Nk _ (Ai8 h.1),Kx rs _ _ h.2 (fun e=>hz (by simpa[Res.isFz]using e))⟩
 | .ptr e t::rs,i,r,h,hz=>by
  simp only[List.all_cons,Ai,Res.okT,Res.ty]at h;simp only[Oo,List.all_append,List.all_cons,Ai];exact⟨Nk _ (Ai8 h.1),Sb _ _,Kx rs _ _ h.2 (fun e=>hz (by simpa[Res.isFz]using e))⟩
 | .ptrK e t tk::rs,i,r,h,hz=>by
  simp only[List.all_cons,Ai,Res.okT,Res.ty]at h;simp only[Oo,List.all_cons,Ai];exact⟨Iz _ _ _,Kx rs _ _ h.2 (fun e=>hz (by simpa[Res.isFz]using e))⟩
 | .frz e a nl::rs,i,r,h,hz=>by
  simp only[List.all_cons,Ai,Res.okT]at h;simp only[Oo,List.all_cons,Ai];have hz1:=hz (by simp[Res.isFz]);exact⟨by simp[RK.plain,hz1],Kx rs _ _ h.2 (fun _=>hz1)⟩
theorem Hg {m:Nat}{z:Bool}:∀(ps:List Par) (i r:Nat),(ps.flatMap Par.io).all Ty.flat2=true->(Dw 0 m i r ps).all (RK.plain z)=true
 | [],_,_,_=>rfl
 | p::ps,i,r,h=>by
  simp only[List.flatMap_cons,List.all_append,Ai]at h;cases p with
  | own agg t io=>
   cases io with
   | true=>
    simp only[Dw,List.all_append,Ai];refine⟨Nk _ fun x hx=> ?_,Hg ps _ _ h.2⟩;obtain⟨y,hy,rfl⟩:=List.mem_map.1 hx;have:=List.fst_mem_of_mem_zipIdx hy;exact List.all_eq_true.1 h.1 _ this
   | false=>
    simp only[Dw,List.all_append,Ai];refine⟨List.all_eq_true.2 fun k hk=> ?_,Hg ps _ _ h.2⟩;rw[List.mem_replicate]at hk;rw[hk.2];rfl
  | iob e t=>
   simp only[Dw,List.all_append,List.all_cons,Ai];refine⟨Iz _ _ _,List.all_eq_true.2 fun k hk=> ?_,Hg ps _ _ h.2⟩;rw[List.mem_replicate]at hk;rw[hk.2];rfl
  | tok e t=>
   simp only[Dw,List.all_cons,Ai];exact⟨rfl,Hg ps _ _ h.2⟩
  | _=>simp only[Dw];exact Hg ps i _ h.2
theorem Ky {m:Nat}:∀(rs:List Res) (i r:Nat),∀x∈Is 0 m i r rs,x.2.all SC.plain=true
 | [],_,_,x,h=>by simp[Is]at h
 | .val agg t nl::rs,i,r,x,h=>by
  simp only[Is,List.mem_cons]at h;rcases h with rfl | h
  ·exact Sb _ _
  ·exact Ky rs _ _ x h
 | .ptr e t::rs,i,r,x,h=>by
  simp only[Is,List.mem_cons]at h;rcases h with rfl | h
  ·rfl
  ·exact Ky rs _ _ x h
 | .ptrK e t tk::rs,_,_,x,h=>by
  simp only[Is,List.mem_cons]at h;rcases h with rfl | h
  ·rfl
  ·exact Ky rs _ _ x h
 | .frz e a nl::rs,_,_,x,h=>by
  simp only[Is,List.mem_cons]at h;rcases h with rfl | h
  ·rfl
  ·exact Ky rs _ _ x h
section
variable {ρ:Env} {v:V} {f:Nat->Nat} {w:World} {g' gF:G}
def mlF (f:Nat->Nat)(l l' :Loc):Prop:=l'.1=f l.1/\l.2=l'.2
theorem Ags (p:List Bool):At.get (ρ++[v]) (.r ⟨ρ.length,p⟩)=At.get [v] (.r ⟨0,p⟩):=by simp[At.get,Ref.get,List.getD]
theorem Alw {c:SC}(h:c.plain=true):C.Rel (mlF f) (fun _ _=>False) (c.enc [v]) ((c.im ρ.length f).enc (ρ++[v])):=by
 unfold SC.plain at h;split at h
 ·rename_i q;have hq:=Nat.eq_of_beq_eq_true h;obtain⟨n,p⟩:=q;simp only at hq;subst hq;simp only[SC.im,SC.enc,Ags];exact Als _
 ·simp only[SC.im,SC.enc];exact .hd _ _ ⟨rfl,rfl⟩
 ·simp only[SC.im,SC.enc];exact .gone _
 ·cases h
theorem Agt:∀(cs:List SC),cs.all SC.plain=true->∀(k:Nat) (x x' :C),(Ay [v] cs)[k]? =some x->(Ay (ρ++[v]) (cs.map (SC.im ρ.length f)))[k]? =some x'→C.Rel (mlF f) (fun _ _=>False) x x'
 | [],_,k,x,x',h,_=>by simp[Ay]at h
 | c::cs,hp,k,x,x',h,h' =>by
  simp only[List.all_cons,Ai]at hp;cases k with
  | zero=>
   simp only[List.map_cons,Ay,List.getElem?_cons_zero,Ah]at h h';subst h h';exact Alw hp.1
  | succ k=>
   simp only[List.map_cons,Ay,List.getElem?_cons_succ]at h h';exact Agt cs hp.2 k x x' h h'
variable (hF:∀l l',mlF f l l'→gF.hdr l' =g'.hdr l)
include hF
theorem Axd {cs:List SC}(hp:cs.all SC.plain=true){u:Value}(h:C9 w g' (Ay [v] cs) u):C9 w gF (Ay (ρ++[v]) (cs.map (SC.im ρ.length f))) u:=by
 obtain⟨vs,e1,e2,e3⟩:=h;refine⟨vs,e1,by rw[e2,An,An];simp,fun k q hq=> ?_⟩;obtain⟨q0,hq0⟩:=Ci (l:=Ay [v] cs) (by rw[An,An];simp) hq;obtain⟨u,hu,hr⟩:=e3 k q0 hq0;exact⟨u,hu,hr.rel hF (fun _ _ h=>h.elim) (Agt cs hp k q0 q hq0 hq)⟩
theorem Asm {P:Program}{l:List (Bool×List SC)}(hp:∀x∈l,x.2.all SC.plain=true){u:Value}(h:Bp P w g' ((Yp l).enc [v]) u):Bp P w gF ((Yp (l.map (imR ρ.length f))).enc (ρ++[v])) u:=by
 have tup:Bp P w g' ((SV.tup l).enc [v]) u->Bp P w gF ((SV.tup (l.map (imR ρ.length f))).enc (ρ++[v])) u:=fun h=>by
  obtain⟨vs,e1,e2,e3⟩:=h;refine⟨vs,e1,by rw[e2];simp,fun k q hq=> ?_⟩;rw[List.getElem?_map,List.getElem?_map,Option.map_map,Option.map_eq_some_iff]at hq;obtain⟨y,hy,rfl⟩:=hq;obtain⟨z,hz,hr⟩:=e3 k (Jy [v] y) (by rw[List.getElem?_map,hy];rfl);refine⟨z,hz,?_⟩;have hpy:=hp y (List.mem_of_getElem? hy);obtain⟨y1,y2⟩:=y;unfold Jy at hr ⊢;simp only[Function.comp,imR]at hpy hr ⊢;cases y1 with
  | true=>exact Axd hF hpy hr
  | false=>
   simp only[Bool.false_eq_true,if_false]at hr ⊢;cases y2 with
   | nil=>simp only[List.map_nil,Ay]at hr ⊢;exact .gone z
   | cons c cs=>
    simp only[List.map_cons,Ay]at hr ⊢;simp only[List.all_cons,Ai]at hpy;exact Au.rel hr hF (fun _ _ h=>h.elim) (Alw hpy.1)
 match l,hp,h,tup with
 | [],_,h,tup=>exact tup h
 | [(false,[])],_,h,tup=>exact tup h
 | [(false,[c])],hp,h,_=>
  have:=hp _ List.mem_cons_self;simp only[List.all_cons,List.all_nil,Bool.and_true]at this;exact Au.rel h hF (fun _ _ h=>h.elim) (Alw this)
 | [(false,c::c2::cs)],_,h,tup=>exact tup h
 | [(true,cs)],hp,h,_=>exact Axd hF (hp _ List.mem_cons_self) h
 | (b,cs)::y::ys,_,h,tup=>
  have e1:Yp ((b,cs)::y::ys)= .tup ((b,cs)::y::ys):=by cases b<;>rcases cs with _ | ⟨c,_ | ⟨c2,cs⟩⟩<;>rfl
  have e2:Yp (((b,cs)::y::ys).map (imR ρ.length f))= .tup (((b,cs)::y::ys).map (imR ρ.length f)):=by cases b<;>rcases cs with _ | ⟨c,_ | ⟨c2,cs⟩⟩<;>rfl
  rw[e1]at h;rw[e2];exact tup h
theorem Avg {P:Program}{j:Nat}{k:RK}{z:Bool}(hp:k.plain z=true)(hSz:z=true->∀b,g'.S b->gF.S b)(hrow:∀p row,k.rows [v] j p=some row->A4 P w g' (j,p) row)(hown:∀b p,g'.own b=some (j,p)->gF.own b=some (f j,p)){p:List (Nat×Nat)}{row:Row}
 (h:(k.im ρ.length f).rows (ρ++[v]) (f j) p=some row):A4 P w gF (f j,p) row:=by
 have fin:∀row0,k.rows [v] j p=some row0->Row.Rel (mlF f) (fun _ _=>False) row0 row->A4 P w gF (f j,p) row:=fun row0 h0 hrel=>
  (hrow p row0 h0).rel hF (fun _ _ h=>h.elim) (hF _ _ ⟨rfl,rfl⟩) (fun b hb=>⟨hown b p hb,rfl⟩) hrel
 unfold RK.plain at hp;split at hp
 ·rename_i e cs;cases p with
  | cons q p=>simp[RK.im,RK.rows]at h
  | nil=>
   simp only[RK.im,RK.rows,Ah]at h;subst h;refine fin _ rfl (.row _ _ _ _ _ _ (fun h=>h) rfl (fun i c c' q1 q2=> ?_) (fun i c c' k x x' q1 q2 q3 q4=> ?_))
   ·cases i with
    | zero=>cases q1;cases q2;rw[An,An];simp
    | succ i=>cases q1
   ·cases i with
    | zero=>cases q1;cases q2;exact Agt cs hp k x x' q3 q4
    | succ i=>cases q1
 ·rename_i e a q nl;simp only[Ai]at hp;have hq:=Nat.eq_of_beq_eq_true hp.1;obtain⟨n,pth⟩:=q;simp only at hq;subst hq;simp only[RK.im]at h;obtain⟨row0,h0,hrel⟩:=Abi (ml:=mlF f) (mr:=fun _ _=>False) (r:=j) (r' :=f j) (x:= .r ⟨0,pth⟩) (x' := .r ⟨ρ.length,pth⟩) (ρ:=[v]) (ρ' :=ρ++[v]) (nl:=nl) (by rw[Ags (ρ:=ρ)]) (fun h=>h) (fun p _=>⟨rfl,rfl⟩) (.inl hp.2) h;exact fin row0 h0 hrel
 ·rename_i e a q nl;simp only[Ai]at hp;have hq:=Nat.eq_of_beq_eq_true hp.2;obtain⟨n,pth⟩:=q;simp only at hq;subst hq;simp only[RK.im]at h;cases p with
  | cons x p=>simp only[RK.rows]at h;cases h
  | nil=>
   rw[A6,Ags (ρ:=ρ)]at h;cases h;refine(hrow [] _ (A6 ..)).rel (mr:=fun a b=>a=none/\b=none) hF (fun a b ⟨h1,h2⟩ k hk=>by subst h1 h2;exact⟨hSz hp.1 k hk,rfl⟩) (hF _ _ ⟨rfl,rfl⟩) (fun b hb=>⟨hown b _ hb,rfl⟩) (.row _ _ _ _ _ _ (fun h=>h) (by simp) (fun i cs cs' q1 q2=> ?_) (fun i cs cs' k y y' q1 q2 q3 q4=> ?_))
   ·rw[List.getElem?_mapIdx,Option.map_eq_some_iff]at q1 q2;obtain⟨z1,hz,rfl⟩:=q1;obtain⟨z',hz',rfl⟩:=q2;simp only[Bk,A2]
   ·rw[List.getElem?_mapIdx,Option.map_eq_some_iff]at q1 q2;obtain⟨z1,hz,rfl⟩:=q1;obtain⟨z',hz',rfl⟩:=q2;rw[hz]at hz';cases hz'
    exact Hf a (.inr ⟨rfl,rfl⟩) z1 k y y' q3 q4
 ·simp only[RK.im,Bj]at h;cases h
 ·cases hp
end
end Go.Pu
/-
  Own work. Calls.
-/
namespace Go.Pu
open Go Go.RowKit
set_option linter.unusedVariables false
set_option linter.unusedSectionVars false
theorem Ai9:∀(l:List (Nat×RK)) (st:St),(Oq l st).nr=st.nr/\(Oq l st).slots=st.slots/\(Oq l st).ts=st.ts/\(Oq l st).fix=st.fix
 | [],st=>⟨rfl,rfl,rfl,rfl⟩
 | (r,k)::l,st=>by
  obtain⟨h1,h2,h3,h4⟩:=Ai9 l (st.setR r k);exact⟨h1.trans (by simp[St.setR,St.nr]),h2,h3,h4⟩
theorem Sc:∀(l:List (Nat×RK)) (st:St) (r:Nat),(∀k,(r,k)∉l)->(Oq l st).rk r=st.rk r
 | [],st,r,_=>rfl
 | (r0,k)::l,st,r,h=>by
  simp only[Oq];rw[Sc l _ r (fun k' hk' =>h k' (List.mem_cons_of_mem _ hk'))];exact Mp (fun e=>h k (by rw[e];exact List.mem_cons_self))
theorem Aew:∀(R:List Nat) (ks:List RK) (st:St),Ft R=true->∀(j r:Nat) (k:RK),R[j]? =some r->ks[j]? =some k->(Oq (R.zip ks) st).rk r=k\/(Oq (R.zip ks) st).rk r= .dead
 | [],_,_,_,j,r,k,h,_=>by simp at h
 | r0::R,[],_,_,j,r,k,_,h=>by simp at h
 | r0::R,k0::ks,st,hn,j,r,k,h1,h2=>by
  simp only[Ft,Ai,Bool.not_eq_true']at hn;simp only[List.zip_cons_cons,Oq];cases j with
  | zero=>
   simp only[List.getElem?_cons_zero,Ah]at h1 h2;subst h1 h2;rw[Sc (R.zip ks) _ r0 (fun k' hk' =>by
    have:r0∈R:=(List.of_mem_zip hk').1;have h3:R.contains r0=true:=by simpa using this
    rw[h3]at hn;cases hn.1)]
   exact Zx st r0 k0
  | succ j=>exact Aew R ks (st.setR r0 k0) hn.2 j r k (by simpa using h1) (by simpa using h2)
theorem Tp {α β:Type}{f:α->M β}:∀(os:List α) (us:List β),os.mapM f= .ok us->us.length=os.length/\∀(i:Nat) (u:β),us[i]? =some u->∃o,os[i]? =some o/\f o= .ok u
 | [],us,h=>by
  simp only[List.mapM_nil]at h;cases h;exact⟨rfl,fun i u h=>by simp at h⟩
 | o::os,us,h=>by
  rw[List.mapM_cons]at h;obtain⟨u,hu,h⟩:=Al h;obtain⟨us',hus,h⟩:=Al h;cases h;obtain⟨e1,e2⟩:=Tp os us' hus;refine⟨by simp[e1],fun i v hv=> ?_⟩;cases i with
  | zero=>simp only[List.getElem?_cons_zero,Ah]at hv;subst hv;exact⟨o,rfl,hu⟩
  | succ i=>simpa using e2 i v (by simpa using hv)
theorem Aex {st:St}{f:FuncId}{os:List Operand}{s:Sig}:∀{ss:List Sig},Yo st ss f os=some s->s∈ss/\s.f=f
 | [],h=>by cases h
 | s0::ss,h=>by
  simp only[Yo]at h;split at h
  ·rename_i hc;cases h;exact⟨List.mem_cons_self,hc.1⟩
  ·obtain⟨h1,h2⟩:=Aex h;exact⟨List.mem_cons_of_mem _ h1,h2⟩
section
variable {X:Ctx} {Γ:List FE} {ss:List Sig} {st:St} {ρ:Env} {a:Act} {w:World} {g:G}
variable {d:Nat} {x y:Operand} {t t' ty:TypeId} {ps:String} {af:Array Edge} {gd:Option (Nat×Bool)} {s:Cg} {nr:Bool}
theorem Aey (hS:Nh X.P ss Γ){sg:Sig}(hmem:sg∈ss)(hN:d<X.N){vs:List SV}(h:Ak6 st d sg vs= .ok s)(hi:Aw X NoD st ρ a w g)(hw:st.wf=true)(hk:st.rok=true){ρ' :Env}(hev:Fk Γ (s.es.map (·.1)) ρ=some ρ')
 {argv:Array Value} (hsz:argv.size=vs.length) (hargs:∀(i:Nat) (sv:SV),vs[i]? =some sv->Bp X.P w g (sv.enc ρ) (argv.getD i undef)):
 Calls X.P sg.f argv w (fun e w' =>∃v,e= .returned v/\(sg.flags.isEmpty=true->F9 NoD w w')/\∃g',Aw X NoD s.st ρ' (a.put (some d) v) w' g'∧
  ∀R,Ch st sg.ps vs= .ok R->(∀r p,r<st.nr->R.contains r=false->g'.hdr (r,p)=g.hdr (r,p))/\(∀(j r:Nat),R[j]? =some r->sg.flags[j]? =some true->g'.hdr (r,[])=g.hdr (r,[]))/\
   (∀r,r<st.nr->Mi (R.zip sg.flags) r=false->g'.hdr (r,[])=g.hdr (r,[]))/\(∀b,g.S b->g'.S b/\w'.heap[b]? =w.heap[b]?)/\∃v',ρ' =ρ++[v']):=by
 unfold Ak6 at h;obtain⟨R,hR,h⟩:=Al h;obtain⟨xs,hxs,h⟩:=Al h;simp only at h;generalize hst1:Nd (R.zip sg.flags) st=st1 at h;by_cases hc:(Ft R=true/\R.length=sg.flags.length/\(Dw 0 sg.m sg.rs.length 0 sg.ps).length=R.length/\R.all (fun r=>Nat.blt r st.nr)=true/\sg.rs.all Res.okT=true/\(sg.ps.flatMap Par.io).all Ty.flat2=true/\
  st1.okR (fun r=>Nat.blt r st.nr && !Mi (R.zip sg.flags) r) (fun r=>Nat.blt r st.nr && !R.contains r)=true/\st.fix.all (fun r=>Nat.blt r st.nr && !Mi (R.zip sg.flags) r)=true/\st1.nr=st.nr/\st1.wf=true/\vs.length=sg.ps.length/\st.dirty.isEmpty=true)
 case neg=>rw[if_pos hc]at h;cases h
 rw[if_neg (fun hh=>hh hc)]at h;obtain⟨hnd,hRl,hpl,hRlt,hf1,hf2,hokR,hfix,hnr1,hwf1,hvl,_⟩:=hc;simp only[Ag]at h;subst h;obtain⟨fn,hfe,⟨F,hF,hname,hbody⟩,hrun⟩:=hS sg hmem;obtain⟨v',hv',rfl⟩:=Eo hev;simp only[Ex.den1,Ex.den,hfe,Option.bind_eq_some_iff,Ah]at hv';obtain⟨yv,hy,rfl⟩:=hv';have hZ:∀r,R.contains r=true->zOf sg R r=true:=fun r hr=>by
  unfold zOf;split
  ·rfl
  ·exact hr
 have hlS:sg.fz=true->∀b,(El g R (zOf sg R)).S b->g.S b:=fun hz b hb=>by
  rcases hb with hb | ⟨l,_,hb⟩
  ·exact hb
  ·unfold zOf at hb;rw[if_pos hz]at hb;cases hb
 have hpre:=Ayc hi hR hxs hnd hZ hsz hargs;have hok:=hi.inv.ok;refine Calls.mono (hrun _ yv w _ _ hpre hy) fun e w' ⟨v,he,hpost⟩=> ?_
 subst he;obtain⟨hchg,g',hgown,hghd,hgrep,hgrow,hgS,hgSo⟩:=hpost;have hkept:∀k,k<w.heap.size->(El g R (zOf sg R)).own k=none->w'.heap[k]? =w.heap[k]? :=fun k hk h0=>hchg.block k hk (fun⟨l,hl⟩=>by rw[h0]at hl;cases hl)
 have notR:∀(b:Nat) (l:Loc),g.own b=some l->R.contains l.1=false->(El g R (zOf sg R)).own b=none:=fun b l hl hc=>by
  simp only[El,hl,Mu hc];rfl
 have notS:∀b,g.S b->(El g R (zOf sg R)).own b=none:=fun b hb=>by
  cases ho:g.own b with
  | none=>simp only[El,ho]
  | some l=>exact absurd hb (hok.own b l ho).2.2
 refine⟨v,rfl,fun e=>⟨hchg.size,fun b hb _=>hkept b hb ?_⟩,?_⟩
 ·have:=e;have hR0:R=[]:=List.eq_nil_of_length_eq_zero (by rw[hRl];simpa using this);cases ho:g.own b with
  | none=>simp only[El,ho]
  | some l=>exact notR b l ho (by rw[hR0];rfl)

 have hk0:sg.k0=R.length:=hRl.symm
 let gF:G:={ S:=fun b=>g.S b\/(sg.fz=true/\g'.S b),own:=fun b=>if b<w.heap.size/\(El g R (zOf sg R)).own b=none then g.own b else(g'.own b).map fun l=>((Hu R st.nr) l.1,l.2),hdr:=fun l=>match O1 R l.1 with | some j=>g'.hdr (j,l.2) | none=>if st.nr<=l.1 then g'.hdr (R.length+(l.1 - st.nr),l.2)else g.hdr l }
 have hRlt' :∀(j r:Nat),R[j]? =some r->r<st.nr:=fun j r hj=>by simpa using List.all_eq_true.1 hRlt r (List.mem_of_getElem? hj)
 have hnone:∀r,st.nr<=r->O1 R r=none:=fun r hr=>Mu (by
  cases hc:R.contains r with
  | false=>rfl
  | true=>
   have hm:r∈R:=by simpa using hc
   have:=List.all_eq_true.1 hRlt r hm;simp at this;omega)
 have hhdF:∀l l',mlF (Hu R st.nr) l l'→gF.hdr l' =g'.hdr l:=fun l l' ⟨h1,h2⟩=>by
  obtain⟨j,p⟩:=l;obtain⟨r,p'⟩:=l';simp only at h1 h2;subst h2;simp only[gF];by_cases hj:j<R.length
  ·have hjr:R[j]? =some r:=by rw[h1];simp only[Hu,if_pos hj];rw[List.getD,List.getElem?_eq_getElem hj];rfl
   rw[O2 hnd hjr]
  ·have hr:r=st.nr+(j - R.length):=by rw[h1];simp only[Hu,if_neg hj]
   rw[hnone r (by omega),if_pos (by omega)];rw[show R.length+(r - st.nr)=j from by omega]
 have hownF:∀(b:Nat) (l:Loc),g'.own b=some l->gF.own b=some ((Hu R st.nr) l.1,l.2):=fun b l hl=>by
  simp only[gF];rw[if_neg,hl];rfl
  rintro⟨h1,h2⟩
  rcases(hgown b l hl).1 with⟨l0,h0⟩ | h0
  ·rw[h2]at h0;cases h0
  ·omega
 have hts:=Abr (R.zip sg.flags) st;rw[hst1]at hts;have hi1:Aw X NoD st1 ρ a w g:=by rw[<-hst1];exact Abq (fun _ h=>h) _ st hi
 have hi2:=hi1.bindOne hwf1 (v:=⟨sg.r,yv⟩) (t:=sg.r) rfl;have hnx:st.nx=ρ.length:=by rw[hi.len];rfl
 have hlt:d<a.tmps.size:=by rw[hi.inv.size];exact hN
 have hokR2:=hokR;unfold St.okR at hokR;simp only[Ai]at hokR;have hf0:∀j,(Hu R st.nr) (sg.k0+j)=st.nr+j:=fun j=>by simp only[Hu];rw[if_neg (by omega)];omega
 have hh:∀l,Ud (fun r=>Nat.blt r st.nr && !Mi (R.zip sg.flags) r) (fun r=>Nat.blt r st.nr && !R.contains r) l->gF.hdr l=g.hdr l:=fun l hl=>by
  obtain⟨r,p⟩:=l;obtain⟨h1,h2⟩:=hl;simp only[Ai,Nat.blt_eq,Bool.not_eq_true']at h1 h2;simp only[gF];cases hc:R.contains r with
  | false=>rw[Mu hc,if_neg (by omega)]
  | true=>
   obtain⟨j,hj⟩:=Uz hc;rw[hj];have hjr:=Tn hj;rcases h2 with rfl | ⟨_,h2⟩
   ·have hjl:j<R.length:=(List.getElem?_eq_some_iff.1 hjr).1;have hfl:sg.flags[j]? =some (sg.flags[j]'(by omega)):=List.getElem?_eq_getElem (by omega);have htrue:sg.flags[j]? =some true:=by
     cases hb:sg.flags[j]'(by omega)with
     | true=>rw[hfl,hb]
     | false=>
      exfalso
      have hz:(R.zip sg.flags)[j]? =some (r,false):=by rw[List.getElem?_zip_eq_some];exact⟨hjr,by rw[hfl,hb]⟩
      have hm:=List.mem_of_getElem? hz;have:Mi (R.zip sg.flags) r=true:=by
       unfold Mi;rw[List.any_eq_true];exact⟨_,hm,by simp⟩
      rw[this]at h1;cases h1.2
    show g'.hdr (j,[])=g.hdr (r,[]);rw[hghd j htrue];exact Kw hjr []
   ·rw[hc]at h2;cases h2
 have hr:∀rg,Ox (fun r=>Nat.blt r st.nr && !R.contains r) rg->∀b,g.reg rg b->gF.reg rg b/\w'.heap[b]? =w.heap[b]? :=fun rg hrg b hb=>by
  have hSS:g.S b->gF.S b/\w'.heap[b]? =w.heap[b]? :=fun hb=>⟨.inl hb,hkept b (hok.S b hb).1 (notS b hb)⟩
  cases rg with
  | none=>exact hSS hb
  | some r=>
   rcases hb with hb | ⟨p,hb⟩
   ·exact⟨.inl (hSS hb).1,(hSS hb).2⟩
   ·have hp:=hrg r rfl;simp only[Ai,Nat.blt_eq,Bool.not_eq_true']at hp;have hn:=notR b (r,p) hb hp.2;have hlt:=(hok.own b _ hb).2.1;exact⟨.inr ⟨p,by simp only[gF];rw[if_pos ⟨hlt,hn⟩];exact hb⟩,hkept b hlt hn⟩
 have hSF:∀b,gF.S b->b<w'.heap.size/\(X.S0 b\/X.O0 b\/X.B0<=b):=fun b hb=>by
  rcases hb with hb | ⟨hz,hb⟩
  ·exact⟨Nat.lt_of_lt_of_le (hok.S b hb).1 hchg.size,(hok.S b hb).2⟩
  ·obtain⟨h1,h2⟩:=hgS b hb;refine⟨h1,?_⟩;rcases h2 with h2 | ⟨l,h2⟩ | h2
   ·exact(hok.S b (hlS hz b h2)).2
   ·obtain⟨l0,h0,_⟩:=V8 h2;exact .inr (hok.own b l0 h0).1
   ·exact .inr (.inr (Nat.le_trans hok.base h2))
 obtain⟨n1,n2,n3,n4⟩:=Ai9 (R.zip ((Dw 0 sg.m sg.rs.length 0 sg.ps).map (RK.im st.nx (Hu R st.nr)))) (st1.bind sg.r);refine⟨gF,⟨?_,hi2.inv.next (Ud (fun r=>Nat.blt r st.nr && !Mi (R.zip sg.flags) r) (fun r=>Nat.blt r st.nr && !R.contains r)) (Ox (fun r=>Nat.blt r st.nr && !R.contains r)) hh hr ⟨hok.chg.trans (hchg.of fun k hk hO=>⟨Nat.lt_of_lt_of_le hk hok.base,fun⟨l,hl⟩=> ?_⟩),Nat.le_trans hok.base hchg.size,hSF,fun b l hl=> ?_⟩ (by simp[Act.put]) rfl (fun i=> ?_) (fun l row hl=> ?_),fun r hr0=> ?_,⟨fun b hb=>hb.elim,fun r b q hq=>by { have e0:(Gt st st1 d sg R).dirty=[]:=rfl;rw[e0]at hq;cases hq }⟩⟩,fun R2 hR2=> ?_⟩
 ·show _=(Gt st st1 d sg R).ts;unfold Gt;simp only[St.put,n3];exact hi2.typ
 ·obtain⟨l0,h0,_⟩:=V8 hl;rcases(hok.own k l0 h0).1 with h | h
  ·exact hO h
  ·omega
 ·simp only[gF]at hl;split at hl
  ·rename_i hpos;obtain⟨h1,h2,h3⟩:=hok.own b l hl;refine⟨h1,Nat.lt_of_lt_of_le h2 hchg.size,fun hS=> ?_⟩;rcases hS with hS | ⟨hz,hS⟩
   ·exact h3 hS
   ·rcases(hgS b hS).2 with h4 | ⟨l4,h4⟩ | h4
    ·exact h3 (hlS hz b h4)
    ·rw[hpos.2]at h4;cases h4
    ·omega
  ·rename_i hneg;rw[Option.map_eq_some_iff]at hl;obtain⟨l0,hl0,_⟩:=hl;obtain⟨h1,h2⟩:=hgown b l0 hl0;have hno:¬(sg.fz=true/\g'.S b):=fun hS=>hgSo b l0 hl0 hS.2
   rcases h1 with⟨l1,h1⟩ | h1
   ·obtain⟨l2,h3,_⟩:=V8 h1;obtain⟨q1,_,q3⟩:=hok.own b l2 h3;exact⟨q1,h2,fun hS=>hS.elim q3 hno⟩
   ·exact⟨.inr (Nat.le_trans hok.base h1),h2,fun hS=>hS.elim (fun hS=>by have:=(hok.S b hS).1;omega) hno⟩
 ·have hslot:(Gt st st1 d sg R).slot i=((st1.bind sg.r).put d (Yp (Is st.nx sg.m 0 st.nr sg.rs))).slot i:=by
   unfold Gt St.put St.slot;simp only[n2]
  show _\/_\/Bp X.P w' gF (((Gt st st1 d sg R).slot i).enc (ρ++[⟨sg.r,yv⟩])) _;rcases St.slot_put (st1.bind sg.r) d i (Yp (Is st.nx sg.m 0 st.nr sg.rs))with⟨e,rfl⟩ | ⟨e,hs⟩ | e
  ·right;right
   rw[hslot,e];simp only[Act.put];rw[Rp _ _ _ hlt];have e1:=Sa (n:=ρ.length) (m:=sg.m) hf0 sg.rs 0 0;rw[Nat.add_zero,Nat.add_zero]at e1;rw[hnx,e1];exact Asm hhdF (Ky sg.rs 0 sg.k0) hgrep
  ·right;left
   refine⟨by show SV.enc _ ((Gt st st1 d sg R).slot i)=SV.enc _ ((st1.bind sg.r).slot i);rw[hslot,e],?_,?_⟩
   ·simp only[Act.put];rw[Pz _ _ _ _ (Ne.symm hs)]
   ·exact SV.okR_ok2 _ (Mn hokR.1 rfl i)
  ·left
   show SV.enc _ ((Gt st st1 d sg R).slot i)= .junk;rw[hslot,e];rfl
 ·obtain⟨r,p⟩:=l;have hl:RK.rows (ρ++[⟨sg.r,yv⟩]) r ((Gt st st1 d sg R).rk r) p=some row:=hl;have hrk:(Gt st st1 d sg R).rk r=if r<st.nr then(Oq (R.zip ((Dw 0 sg.m sg.rs.length 0 sg.ps).map (RK.im st.nx (Hu R st.nr)))) (st1.bind sg.r)).rk r else((Oo 0 sg.m 0 sg.k0 sg.rs).map (RK.im st.nx (Hu R st.nr))).getD (r - st.nr) .dead:=by
   have hnr2:(Oq (R.zip ((Dw 0 sg.m sg.rs.length 0 sg.ps).map (RK.im st.nx (Hu R st.nr)))) (st1.bind sg.r)).roots.length=st.nr:=n1.trans hnr1;unfold Gt St.put St.rk;simp only[List.getD];split
   ·rename_i h;rw[List.getElem?_append_left (by omega)]
   ·rename_i h;rw[List.getElem?_append_right (by omega),hnr2]
  have imrow:∀(j:Nat) (k:RK),(Pp sg).rk j=k->k.plain sg.fz=true->r=(Hu R st.nr) j->RK.rows (ρ++[⟨sg.r,yv⟩]) ((Hu R st.nr) j) (k.im ρ.length (Hu R st.nr)) p=some row->A4 X.P w' gF (r,p) row:=fun j k hk hp hj hrows=>by
   rw[hj];exact Avg hhdF hp (fun hz b hb=> .inr ⟨hz,hb⟩) (fun p row hpr=>hgrow (j,p) row (by show RK.rows _ j ((Pp sg).rk j) p=_;rw[hk];exact hpr)) (fun b p hb=>hownF b _ hb) hrows
  have hpl0:(Dw 0 sg.m sg.rs.length 0 sg.ps).length=R.length:=hpl;rw[hrk]at hl;split at hl
  ·rename_i hlt2;cases hc:R.contains r with
   | true=>
    obtain⟨j,hj⟩:=Uz hc;have hjr:=Tn hj;have hjl:j<R.length:=(List.getElem?_eq_some_iff.1 hjr).1;have hkj:(Dw 0 sg.m sg.rs.length 0 sg.ps)[j]? =some ((Dw 0 sg.m sg.rs.length 0 sg.ps)[j]'(by omega)):=List.getElem?_eq_getElem (by omega);generalize (Dw 0 sg.m sg.rs.length 0 sg.ps)[j]'(by omega)=k at hkj;have hkj' :((Dw 0 sg.m sg.rs.length 0 sg.ps).map (RK.im st.nx (Hu R st.nr)))[j]? =some (k.im ρ.length (Hu R st.nr)):=by rw[hnx,List.getElem?_map,hkj];rfl
    right
    rcases Aew R _ (st1.bind sg.r) hnd j r _ hjr hkj' with e | e
    ·rw[e]at hl;have hfj:r=(Hu R st.nr) j:=by simp only[Hu,if_pos hjl];rw[List.getD,hjr];rfl
     refine imrow j k ?_ (List.all_eq_true.1 (Hg sg.ps _ _ hf2) k (List.mem_of_getElem? hkj)) hfj (by rw[<-hfj];exact hl);unfold St.rk Pp;simp only[List.getD];rw[List.getElem?_append_left (by omega),hkj];rfl
    ·rw[e,Bj]at hl;cases hl
   | false=>
    left
    rw[Sc _ _ r (fun k hk=>by
     have:r∈R:=(List.of_mem_zip hk).1;have h3:R.contains r=true:=by simpa using this
     rw[h3]at hc;cases hc)]at hl
    have hpr:Nat.blt r st.nr=true/\R.contains r=false:=⟨by simpa using hlt2,hc⟩;have hng:Mi (R.zip sg.flags) r=false:=by
     cases hg:Mi (R.zip sg.flags) r with
     | false=>rfl
     | true=>
      exfalso
      unfold Mi at hg;rw[List.any_eq_true]at hg;obtain⟨y,hy1,hy2⟩:=hg;simp only[Ai]at hy2;have e0:=Nat.eq_of_beq_eq_true hy2.1;have:r∈R:=by rw[<-e0];exact(List.of_mem_zip (a:=y.1) (b:=y.2) hy1).1
      have h3:R.contains r=true:=by simpa using this
      rw[h3]at hc;cases hc
    have hph:(Nat.blt r st.nr && !Mi (R.zip sg.flags) r)=true/\(Nat.blt r st.nr && !R.contains r)=true:=by rw[hpr.1,hpr.2,hng];exact⟨rfl,rfl⟩
    refine⟨hl,⟨hph.1,.inr hph.2⟩,RK.okR_ok2 _ (Rs hokR.2 rfl r) hph p row hl,fun b hb=> ?_⟩;have hn:=notR b (r,p) hb hc;have hlt3:=(hok.own b _ hb).2.1;exact⟨by simp only[gF];rw[if_pos ⟨hlt3,hn⟩];exact hb,hkept b hlt3 hn⟩
  ·rename_i hge
   right
   cases hj:(Oo 0 sg.m 0 sg.k0 sg.rs)[r - st.nr]? with
   | none=>
    rw[hnx,List.getD,List.getElem?_map,hj]at hl;simp only[Option.map_none,Option.getD_none,Bj]at hl;cases hl
   | some k=>
    rw[hnx,List.getD,List.getElem?_map,hj]at hl;simp only[Option.map_some,Option.getD_some]at hl;have hfj:r=(Hu R st.nr) (R.length+(r - st.nr)):=by simp only[Hu];rw[if_neg (by omega)];omega
    refine imrow (R.length+(r - st.nr)) k ?_ (List.all_eq_true.1 (Kx sg.rs 0 sg.k0 hf1 (fun h=>h)) k (List.mem_of_getElem? hj)) hfj (by rw[<-hfj];exact hl);unfold St.rk Pp;simp only[List.getD];rw[List.getElem?_append_right (by omega),show R.length+(r - st.nr) - (Dw 0 sg.m sg.rs.length 0 sg.ps).length=r - st.nr from by omega,hj];rfl
 ·have hr1:r∈st.fix:=by
   have:r∈(Gt st st1 d sg R).fix:=hr0;unfold Gt at this;simp only[St.put,n4]at this;have h2:r∈st1.fix:=this;rw[hts.2]at h2;exact h2
  have hp:=List.all_eq_true.1 hfix r hr1;rw[hh (r,[]) ⟨hp,.inl rfl⟩];exact hi.fixd r hr1
 ·rw[hR]at hR2;cases hR2;refine⟨fun r p hr hc=> ?_,fun j r hj hfl=> ?_,fun r hr hg=>hh (r,[]) ⟨by simp only[Ai,Nat.blt_eq,Bool.not_eq_true'];exact⟨hr,hg⟩,.inl rfl⟩,fun b hb=>⟨.inl hb,hkept b (hok.S b hb).1 (notS b hb)⟩,_,rfl⟩
  ·simp only[gF];rw[Mu hc,if_neg (by omega)]
  ·have hpj:=O2 hnd hj;show gF.hdr (r,[])=g.hdr (r,[]);simp only[gF];rw[hpj];show g'.hdr (j,[])=g.hdr (r,[]);rw[hghd j hfl];exact Kw hj []
theorem Avh (f:SC->SC)(r:Nat):(st.mapB f).rk r=(st.rk r).mapB f:=by
 unfold St.rk St.mapB;simp only[List.getD,List.getElem?_map];cases st.roots[r]? <;>rfl
theorem Aw.mapB {D:Nat->Prop}{f:SC->SC}(hi:Aw X D st ρ a w g)(hf:∀(c:SC) (v:Value),Au w g (c.enc ρ) v->Au w g ((f c).enc ρ) v):Aw X D (st.mapB f) ρ a w g:=by
 refine⟨hi.typ,⟨hi.inv.size,hi.inv.nodef,hi.inv.ok,hi.inv.slot,fun l row hl=> ?_⟩,hi.fixd,hi.dirt⟩;have hl:RK.rows ρ l.1 ((st.mapB f).rk l.1) l.2=some row:=hl;rw[Avh]at hl;cases hr:st.rk l.1 with
 | box e cells=>
  rw[hr]at hl;obtain⟨l1,l2⟩:=l;simp only at hr;cases l2 with
  | cons q p=>simp[RK.mapB,RK.rows]at hl
  | nil=>
   simp only[RK.mapB,RK.rows,Ah]at hl;subst hl;have h0:=hi.inv.row (l1,[]) (.row true false e [Ay ρ cells]) (by show RK.rows ρ l1 (st.rk l1) []=_;rw[hr];rfl);have hlen:(Ay ρ (cells.map f)).length=(Ay ρ cells).length:=by rw[An,An];simp
   cases h0 with
   | full _ _ _ _ b base n cap cs f' h=>
    refine .full _ _ _ _ b base n cap cs f' ⟨h.hd,h.own,h.heap,h.len,h.hcap,h.hmax,h.fit,h.pos,fun i c q=> ?_,fun i c k x q1 q2=> ?_,fun i c k x q1 q2=> ?_,fun e0=>by cases e0⟩
    ·cases i with
     | zero=>cases q;rw[hlen];exact h.size 0 _ rfl
     | succ i=>cases q
    ·cases i with
     | zero=>
      cases q1;obtain⟨x0,hx0⟩:=Ci (l:=Ay ρ cells) (by rw[hlen];exact Nat.le_refl _) q2;exact h.cell 0 _ k x0 rfl hx0
     | succ i=>cases q1
    ·cases i with
     | zero=>
      cases q1;rw[An,List.getElem?_map,List.getElem?_map,Option.map_map,Option.map_eq_some_iff]at q2;obtain⟨c0,hc0,rfl⟩:=q2;exact hf c0 _ (h.rep 0 _ k (c0.enc ρ) rfl (by rw[An,List.getElem?_map,hc0];rfl))
     | succ i=>cases q1
 | _=>
  rw[hr]at hl;exact hi.inv.row l row (by show RK.rows ρ l.1 (st.rk l.1) l.2=_;rw[hr];exact hl)
theorem Aw.untk {D:Nat->Prop}(hi:Aw X D st ρ a w g):Aw X D (st.mapB SC.untk) ρ a w g:=hi.mapB fun c v h=>by
 cases c with
 | tk r x=>simp only[SC.enc]at h;simp only[SC.untk,SC.enc];exact Rq h
 | _=>exact h
theorem Aez:∀{K:List (Nat×At)} {r:Nat} {x:At},Ah5 K r=some x->(r,x)∈K
 | [],_,_,h=>by cases h
 | p::K,r,x,h=>by
  simp only[Ah5]at h;split at h
  ·rename_i e;cases h;subst e;exact List.mem_cons_self
  ·exact List.mem_cons_of_mem _ (Aez h)
theorem Aja {c:SC}{r:Nat}{x:At}(h:(r,x)∈Arj c):c= .tk r x:=by
 cases c with
 | tk r' x' =>simp only[Arj,List.mem_singleton,Prod.mk.injEq]at h;rw[h.1,h.2]
 | _=>simp[Arj]at h
theorem Anw {r:Nat}{x:At}{v:Value}(h:Au w g ((SC.tk r x).enc ρ) v):Au w g (.ro none ((x.get ρ).els none)) (g.hdr (r,[])):=by
 simp only[SC.enc]at h;rw[<-Cu (Rq h)];exact Hv h
theorem Alx (hi:Aw X NoD st ρ a w g){R:List Nat}{vs:List SV}{argv:Array Value}(hargs:∀(i:Nat) (sv:SV),vs[i]? =some sv->Bp X.P w g (sv.enc ρ) (argv.getD i undef)){r:Nat}{x:At}(h:(r,x)∈Ah6 st R vs):
 Au w g (.ro none ((x.get ρ).els none)) (g.hdr (r,[])):=by
 unfold Ah6 at h;rcases List.mem_append.1 h with h | h
 ·obtain⟨sv,h1,h2⟩:=List.mem_flatMap.1 h;cases sv with
  | c c=>
   have:=Aja h2;subst this;obtain⟨i,hi1,hi2⟩:=List.getElem_of_mem h1;have h5:Bp X.P w g ((SV.c (.tk r x)).enc ρ) (argv.getD i undef):=hargs i _ (by rw[List.getElem?_eq_getElem hi1,hi2]);exact Anw (r:=r) (x:=x) h5
  | _=>simp[Aze]at h2
 ·obtain⟨r0,h1,h2⟩:=List.mem_flatMap.1 h;cases hr:st.rk r0 with
  | box e cells=>
   rw[hr]at h2;obtain⟨c,h3,h4⟩:=List.mem_flatMap.1 h2;have:=Aja h4;subst this;obtain⟨k,hk1,hk2⟩:=List.getElem_of_mem h3;obtain⟨b,base,f,_,_,q3⟩:=Ow hi hr;exact Anw (q3 k _ (by rw[An,List.getElem?_map,List.getElem?_eq_getElem hk1,hk2];rfl)).2
  | _=>rw[hr]at h2;simp[Azf]at h2
theorem We (hS:Nh X.P ss Γ){sg:Sig}(hmem:sg∈ss)(hN:d<X.N){vs:List SV}(h:Aeo st d sg vs= .ok s)(hi:Aw X NoD st ρ a w g)(hw:st.wf=true)(hk:st.rok=true){ρ' :Env}(hev:Fk Γ (s.es.map (·.1)) ρ=some ρ')
 {argv:Array Value} (hsz:argv.size=vs.length) (hargs:∀(i:Nat) (sv:SV),vs[i]? =some sv->Bp X.P w g (sv.enc ρ) (argv.getD i undef)):
 Calls X.P sg.f argv w (fun e w' =>∃v,e= .returned v/\(sg.flags.isEmpty=true->F9 NoD w w')/\∃g',Aw X NoD s.st ρ' (a.put (some d) v) w' g'∧
  ∀R,Ch st sg.ps vs= .ok R->(∀r p,r<st.nr->R.contains r=false->g'.hdr (r,p)=g.hdr (r,p))/\∀(j r:Nat),R[j]? =some r->sg.flags[j]? =some true->g'.hdr (r,[])=g.hdr (r,[])):=by
 unfold Aeo at h;obtain⟨s0,hs0,h⟩:=Al h;obtain⟨R,hR,h⟩:=Al h;simp only at h;split at h
 ·cases h;refine Calls.mono (Aey hS hmem hN hs0 hi hw hk hev hsz hargs) fun e w' ⟨v,h1,h2,g',h3,h4⟩=>⟨v,h1,h2,g',h3,fun R hR=> ?_⟩
  obtain⟨k1,k2,_⟩:=h4 R hR;exact⟨k1,k2⟩
 ·by_cases hc:((Ah6 st R vs).all (fun p=>Nat.blt p.1 st.nr && !Mi (R.zip sg.flags) p.1 && p.2.lt st.ts.length))=true
  case neg=>rw[if_pos hc]at h;cases h
  rw[if_neg (fun hh=>hh hc)]at h;cases h;refine Calls.mono (Aey hS hmem hN hs0 hi hw hk hev hsz hargs) fun e w' ⟨v,h1,h2,g',h3,h4⟩=>⟨v,h1,h2,g',?_,fun R hR=> ?_⟩
  ·obtain⟨_,_,k3,k4,v',rfl⟩:=h4 R hR;refine h3.mapB fun c u hu=> ?_
   cases c with
   | h r=>
    simp only[SC.retk];cases hf:Ah5 (Ah6 st R vs) r with
    | none=>exact hu
    | some x=>
     have hm:=Aez hf;have hcm:=List.all_eq_true.1 hc _ hm;simp only[Ai,Nat.blt_eq,Bool.not_eq_true']at hcm;have hfact:=Alx hi hargs hm;simp only[SC.enc]at hu;have hu:=Cu hu;simp only[SC.enc];refine .both _ _ _ (.hd _ _ hu) ?_
     rw[hu,k3 r hcm.1.1 hcm.1.2,At.get_app (by rw[hi.len];exact hcm.2)];refine hfact.keep (pl:=fun _=>False) (pr:=fun rg=>rg=none) (fun _ h=>h.elim) (fun rg hrg b hb=> ?_) (Lf (prr:=fun rg=>rg=none) rfl _);subst hrg;exact k4 b hb
   | _=>exact hu
  ·obtain⟨k1,k2,_⟩:=h4 R hR;exact⟨k1,k2⟩
end
end Go.Pu
/-
  Own work. Values leaf by leaf; rows that change their places.
-/
namespace Go.Pu
open Go Go.RowKit
set_option linter.unusedVariables false
set_option linter.unusedSectionVars false
def Bv:(t:Ty)->t.den->List V
 | .int k,x=>[⟨.int k,x⟩]
 | .bool,x=>[⟨.bool,x⟩]
 | .unit,_=>[]
 | .pr a b,x=>Bv a x.1++Bv b x.2
 | .sl e a,x=>[⟨.sl e a,x⟩]
 | .mp,x=>[⟨.mp,x⟩]
theorem Cr:∀(t:Ty) (x:t.den),(Bv t x).length=t.n
 | .int _,_=>rfl
 | .bool,_=>rfl
 | .unit,_=>rfl
 | .pr a b,x=>by simp only[Bv,Ad,Cr a x.1,Cr b x.2,Ty.n]
 | .sl _ _,_=>rfl
 | .mp,_=>rfl
theorem Sd:∀(t:Ty) (x:t.den),(Bv t x).map V.t=t.leaves
 | .int _,_=>rfl
 | .bool,_=>rfl
 | .unit,_=>rfl
 | .pr a b,x=>by simp only[Bv,List.map_append,Sd a x.1,Sd b x.2,Ty.leaves]
 | .sl _ _,_=>rfl
 | .mp,_=>rfl
theorem Z5 {vs:List V}{u:Ty}(h:vs.map V.t=[u]):∃v,vs=[v]/\v.t=u:=by
 cases vs with
 | nil=>cases h
 | cons v vs=>
  simp only[List.map_cons,List.cons.injEq,List.map_eq_nil_iff]at h;exact⟨v,by rw[h.2],h.1⟩
theorem Wf:∀(t:Ty) (vs:List V),vs.map V.t=t.leaves->Bv t (mkv t vs).1=vs
 | .pr a b,vs,h=>by
  have hl:vs.length=(Ty.pr a b).n:=by rw[<-Ba,<-h,Ae]
  rw[Abd a b vs hl];have la:=Ba a;simp only[Ty.leaves]at h;simp only[Bv];rw[Wf a (vs.take a.n) (by rw[<-la,List.map_take,h,List.take_left]),Wf b (vs.drop a.n) (by rw[<-la,List.map_drop,h,List.drop_left])];exact List.take_append_drop _ _
 | .unit,vs,h=>by simp only[Ty.leaves,List.map_eq_nil_iff]at h;subst h;rfl
 | .int k,vs,h=>by
  obtain⟨v,e0,h2⟩:=Z5 h;subst e0;have:=Kv (u:= .int k) v rfl h2;simp only[Bv,this]
 | .bool,vs,h=>by
  obtain⟨v,e0,h2⟩:=Z5 h;subst e0;have:=Kv (u:= .bool) v rfl h2;simp only[Bv,this]
 | .sl e a,vs,h=>by
  obtain⟨v,e0,h2⟩:=Z5 h;subst e0;have:=Kv (u:= .sl e a) v rfl h2;simp only[Bv,this]
 | .mp,vs,h=>by
  obtain⟨v,e0,h2⟩:=Z5 h;subst e0;have:=Kv (u:= .mp) v rfl h2;simp only[Bv,this]
theorem Tq (n:Nat){ρ:Env}:∀(t:Ty) (p:List Bool) (x:t.den),Ref.get ρ ⟨n,p⟩=⟨t,x⟩->(Bw p t).map (fun q=>(At.r ⟨n,q⟩).get ρ)=Bv t x
 | .int _,p,x,h=>by simp only[Bw,List.map_cons,List.map_nil,At.get,h,Bv]
 | .bool,p,x,h=>by simp only[Bw,List.map_cons,List.map_nil,At.get,h,Bv]
 | .unit,p,x,h=>rfl
 | .pr a b,p,x,h=>by
  have ha:Ref.get ρ ⟨n,p++[false]⟩=⟨a,x.1⟩:=by simp only[Ref.get,Fl]at h ⊢;rw[h];rfl
  have hb:Ref.get ρ ⟨n,p++[true]⟩=⟨b,x.2⟩:=by simp only[Ref.get,Fl]at h ⊢;rw[h];rfl
  simp only[Bw,List.map_append,Tq n a _ x.1 ha,Tq n b _ x.2 hb,Bv]
 | .sl _ _,p,x,h=>by simp only[Bw,List.map_cons,List.map_nil,At.get,h,Bv]
 | .mp,p,x,h=>by simp only[Bw,List.map_cons,List.map_nil,At.get,h,Bv]
def Qy (r i kk:Nat):V->C
 | ⟨.int k,z⟩=> .int k z
 | ⟨.bool,b⟩=> .bool b
 | ⟨.sl _ _,_⟩=> .hd (r,[(i,kk)])
 | _=> .gone
def Hh:V->Option Row
 | ⟨.sl e a,xs⟩=>some (.row false false e (List.map (enc none a) xs))
 | _=>none
theorem Jb {α:Type}{x:α}{j:Nat}:([x]:List α)[j]? =if j=0 then some x else none:=by cases j<;>simp
theorem Fn (r i:Nat):∀(t:Ty) (k0:Nat) (x:t.den) (j:Nat),(Cb r i k0 t x)[j]? =((Bv t x)[j]?).map (Qy r i (k0+j))
 | .int _,k0,x,j=>by simp only[Cb,Bv,Jb];split<;>simp[Qy]
 | .bool,k0,x,j=>by simp only[Cb,Bv,Jb];split<;>simp[Qy]
 | .unit,k0,x,j=>by simp[Cb,Bv]
 | .pr a b,k0,x,j=>by
  simp only[Cb,Bv,List.getElem?_append,Bf,Cr];split
  ·exact Fn r i a k0 x.1 j
  ·rename_i h;rw[Fn r i b (k0+a.n) x.2 (j - a.n),show k0+a.n+(j - a.n)=k0+j from by omega]
 | .sl _ _,k0,x,j=>by simp only[Cb,Bv,Jb];split<;>simp_all [Qy]
 | .mp,k0,x,j=>by simp only[Cb,Bv,Jb];split<;>simp[Qy]
theorem Fw:∀(t:Ty) (k0:Nat) (x:t.den) (j:Nat),Bg k0 t x (k0+j)=((Bv t x)[j]?).bind Hh
 | .int _,k0,x,j=>by simp only[Bg,Bv,Jb];split<;>simp[Hh]
 | .bool,k0,x,j=>by simp only[Bg,Bv,Jb];split<;>simp[Hh]
 | .unit,k0,x,j=>by simp[Bg,Bv]
 | .pr a b,k0,x,j=>by
  simp only[Bg,Bv,List.getElem?_append,Cr];by_cases h:j<a.n
  ·have hb:Nat.blt (k0+j) (k0+a.n)=true:=by simp;omega
   rw[hb,if_pos h,cond_true];exact Fw a k0 x.1 j
  ·have hb:Nat.blt (k0+j) (k0+a.n)=false:=by
    cases hh:Nat.blt (k0+j) (k0+a.n)with
    | false=>rfl
    | true=>simp at hh;omega
   rw[hb,if_neg h,cond_false];have:=Fw b (k0+a.n) x.2 (j - a.n)
   rwa [show k0+a.n+(j - a.n)=k0+j from by omega]at this
 | .sl _ _,k0,x,j=>by
  simp only[Bg,Bv,Jb];by_cases h:j=0
  ·subst h;simp[Hh]
  ·have hb:Nat.beq (k0+j) k0=false:=T4 (by omega);rw[hb,if_neg h];rfl
 | .mp,k0,x,j=>by simp only[Bg,Bv,Jb];split<;>simp[Hh]
theorem G1:∀(t:Ty) (x:t.den) (j:Nat) (V:V),t.flat1=true->(Bv t x)[j]? =some V->(∃k z,V=⟨.int k,z⟩)\/(∃b,V=⟨.bool,b⟩)\/∃e a xs,V=⟨.sl e a,xs⟩/\a.flat=true
 | .int k,x,j,V,hf,h=>by
  simp only[Bv,Jb]at h;split at h<;>cases h
  exact .inl ⟨k,x,rfl⟩
 | .bool,x,j,V,hf,h=>by
  simp only[Bv,Jb]at h;split at h<;>cases h
  exact .inr (.inl ⟨x,rfl⟩)
 | .unit,x,j,V,hf,h=>by simp[Bv]at h
 | .pr a b,x,j,V,hf,h=>by
  simp only[Ty.flat1,Ai]at hf;simp only[Bv,List.getElem?_append]at h;split at h
  ·exact G1 a x.1 j V hf.1 h
  ·exact G1 b x.2 _ V hf.2 h
 | .sl e a,x,j,V,hf,h=>by
  simp only[Bv,Jb]at h;split at h<;>cases h
  exact .inr (.inr ⟨e,a,x,rfl,hf⟩)
 | .mp,x,j,V,hf,h=>by simp[Ty.flat1]at hf
theorem Lm {V:V}{row:Row}{ml:Loc->Loc->Prop}{mr:Rg->Rg->Prop}(h:Hh V=some row)(hf:∀e a xs,V=⟨.sl e a,xs⟩->a.flat=true):Row.Rel ml mr row row:=by
 unfold Hh at h;split at h
 ·rename_i e a xs;cases h;have hfa:=hf e a xs rfl;refine .row _ _ _ _ _ _ (fun h=>h) rfl (fun i cs cs' q1 q2=>(by rw[q1]at q2;cases q2;rfl)) (fun i cs cs' k y y' q1 q2 q3 q4=> ?_);rw[q1]at q2;cases q2
  rw[List.getElem?_map,Option.map_eq_some_iff]at q1;obtain⟨z,hz,rfl⟩:=q1;exact Hf a (.inl hfa) z k y y' q3 q4
 ·cases h
section
variable {X:Ctx} {D:Nat->Prop} {Γ:List FE} {st:St} {ρ:Env} {a:Act} {w w' :World} {g g' :G}
theorem Aw.surg (h:Aw X D st ρ a w g)(ph pr:Nat->Bool){roots' :List RK}{dirty' :List (Nat×Bool)}(hs:st.slots.all (SV.okR ph pr)=true)
 (hh:∀l,Ud ph pr l->g'.hdr l=g.hdr l) (hr:∀rg,Ox pr rg->∀b,g.reg rg b->g'.reg rg b/\w'.heap[b]? =w.heap[b]?) (hok:GOK X g' w')
 (hrow:∀r p row,(roots'.getD r .dead).rows ρ r p=some row->(roots'.getD r .dead=st.rk r/\(st.rk r).okR ph pr=true/\ph r=true/\pr r=true/\∀b p,g.own b=some (r,p)->g'.own b=some (r,p)/\w'.heap[b]? =w.heap[b]?)\/A4 X.P w' g' (r,p) row)
 (hfix:∀r,r∈st.fix->g'.hdr (r,[])=g.hdr (r,[]))
 (hd:(∀b,D b->∃p q,p∈dirty'∧g'.own b=some (p.1,q)/\(p.2=true↔q≠[]))/\∀r b q,dirty' =[(r,true)]->g'.own b=some (r,q)->q≠[]->D b):
 Aw X D { st with roots:=roots',dirty:=dirty' } ρ a w' g' :=by
 refine⟨h.typ,h.inv.next (Ud ph pr) (Ox pr) hh hr hok rfl rfl (fun s=> .inr (.inl ⟨rfl,rfl,SV.okR_ok2 _ (Mn hs rfl s)⟩)) (fun l row hl=> ?_),fun r hr=>(hfix r hr).trans (h.fixd r hr),hd⟩;obtain⟨r,p⟩:=l;rcases hrow r p row hl with⟨e,h1,h2,h3,h4⟩ | h1
 ·left
  have hl:RK.rows ρ r (roots'.getD r .dead) p=some row:=hl;rw[e]at hl;exact⟨hl,⟨h2,.inr h3⟩,RK.okR_ok2 _ h1 ⟨h2,h3⟩ p row hl,fun b hb=>h4 b p hb⟩
 ·exact .inr h1
theorem Aw.killOnly (h:Aw X D st ρ a w g)(hk:st.rok=true)(r:Nat):Aw X D ((st.kill false r).setR r (st.rk r)) ρ a w g:=
 h.mut hk (all:=false) (r:=r) ⟨fun _ _ _ _=>rfl,fun _ _ _ b hb=>⟨hb,rfl⟩⟩ h.inv.ok (st.rk r) (fun p row hp=>h.inv.row (r,p) row hp) (fun e=>by cases e) (fun b l _ hb=>⟨hb,rfl⟩) st.dirty h.dirt
theorem Aw.killDead (h:Aw X D st ρ a w g)(hk:st.rok=true){all:Bool}(r:Nat)(hfix:all=true->st.fix.contains r=false):Aw X D ((st.kill all r).setR r .dead) ρ a w g:=
 h.mut hk (all:=all) (r:=r) ⟨fun _ _ _ _=>rfl,fun _ _ _ b hb=>⟨hb,rfl⟩⟩ h.inv.ok .dead (fun p row hp=>by rw[Bj]at hp;cases hp) hfix (fun b l _ hb=>⟨hb,rfl⟩) st.dirty h.dirt
theorem X5 :∀(l:List (Nat×Bool)) (st:St),Aw X D st ρ a w g->Aw X D (Nd l st) ρ a w g
 | [],st,h=>h
 | (r,io)::l,st,h=>by
  simp only[Nd];split
  ·rename_i hc;simp only[Ai,Bool.or_eq_true,Bool.not_eq_true']at hc;refine X5 l _ (h.killDead hc.1 r fun e=> ?_);rcases hc.2 with hc | hc
   ·rw[hc]at e;cases e
   ·exact hc
  ·exact X5 l st h
def Aly (g:G):Option Loc->Value
 | some l=>g.hdr l
 | none=> .slice none 0 0
def Fit (g:G)(s:Option Loc)(V:V)(u:Value):Prop:=(V.t.isSl=true->u=Aly g s)/\(V.t.isSl=false->∀w g' r i k,Au w g' (Qy r i k V) u)
theorem Ap3 {st:St}{R0:Nat}{k:RK}(r:Nat):((st.roots.set R0 k).getD r .dead=st.rk r/\r≠R0)\/(r=R0/\(st.roots.set R0 k).getD r .dead=k)\/(st.roots.set R0 k).getD r .dead= .dead:=by
 by_cases e:r=R0
 ·subst e
  right
  rcases Zx st r k with h | h
  ·exact .inl ⟨rfl,h⟩
  ·exact .inr h
 ·exact .inl ⟨Mp e,e⟩
open Classical in
theorem Aw.regroup (hi:Aw X D st ρ a w g){ph pr:Nat->Bool}{R0:Nat}(src:Nat->Nat->Option Loc){e:TypeId}{b:Ty}{v:At}{nl:Bool}{xs:List b.den}{els:List (List C)}
 (hv:(v.get ρ).as (.sl e b)=xs) (hf:b.flat1=true) (hs:st.slots.all (SV.okR ph pr)=true)
 (hk:∀r,r≠R0->st.rk r≠.dead->(st.rk r).okR ph pr=true/\ph r=true/\pr r=true)
 (hpr:∀r,pr r=true->r≠R0/\∀i j p,src i j≠some (r,p))
 (hinj:∀i j i' j' l,src i j=some l->src i' j' =some l->(i,j)=(i',j')) (hsrc:∀i j,src i j≠some (R0,[]))
 (hd1:st.dirty=[]\/st.dirty.contains (R0,true)=true) (hd2:∀r,st.dirty≠[(r,true)])
 (hrow:A4 X.P w g (R0,[]) (.row false nl e els)) (hl:els.length=xs.length)
 (hel:∀i c y,els[i]? =some c->xs[i]? =some y->c.length=b.n/\∀j q V u,c[j]? =some q->(Bv b y)[j]? =some V->Au w g q u->Fit g (src i j) V u)
 (hsub:∀i y j V row,xs[i]? =some y->(Bv b y)[j]? =some V->Hh V=some row->match src i j with | some l=>A4 X.P w g l row | none=>∃e',row= .row false false e' []):
 ∃g',Aw X D (st.setR R0 (.list e b v nl none)) ρ a w g'∧(∀r,g'.hdr (r,[])=g.hdr (r,[]))/\(∀l,l.1≠R0->g'.hdr l=g.hdr l)/\g'.S=g.S:=by
 let g' :G:={ S:=g.S,own:=fun b0=>match g.own b0 with | none=>none | some l=>if h:∃ij:Nat×Nat,src ij.1 ij.2=some l then some (R0,[h.choose])else some l,hdr:=fun l=>if l.1=R0 then(match l.2 with | [(i,j)]=>Aly g (src i j) | _=>g.hdr l)else g.hdr l }
 have hok:=hi.inv.ok;have ho1:∀b0 i j l,g.own b0=some l->src i j=some l->g'.own b0=some (R0,[(i,j)]):=fun b0 i j l h1 h2=>by
  have hx:∃ij:Nat×Nat,src ij.1 ij.2=some l:=⟨(i,j),h2⟩;simp only[g',h1];rw[dif_pos hx,hinj _ _ _ _ _ h2 hx.choose_spec]
 have ho2:∀b0 l,g.own b0=some l->(∀i j,src i j≠some l)->g'.own b0=some l:=fun b0 l h1 h2=>by
  simp only[g',h1];rw[dif_neg]
  rintro⟨⟨i,j⟩,hx⟩
  exact h2 i j hx
 have ho3:∀b0 l,g'.own b0=some l->∃l0,g.own b0=some l0/\((∃i j,src i j=some l0/\l=(R0,[(i,j)]))\/((∀i j,src i j≠some l0)/\l=l0)):=fun b0 l h=>by
  simp only[g']at h;split at h
  ·cases h
  ·rename_i l0 h0;refine⟨l0,h0,?_⟩;split at h
   ·rename_i hx;cases h;exact .inl ⟨_,_,hx.choose_spec,rfl⟩
   ·rename_i hx;cases h;exact .inr ⟨fun i j hh=>hx ⟨(i,j),hh⟩,rfl⟩
 have hh0:∀r,g'.hdr (r,[])=g.hdr (r,[]):=fun r=>by simp only[g'];split<;>rfl
 have hh1:∀l,l.1≠R0->g'.hdr l=g.hdr l:=fun l h=>by simp only[g'];rw[if_neg h]
 have hh2:∀i j,g'.hdr (R0,[(i,j)])=Aly g (src i j):=fun i j=>by simp only[g',if_true]
 refine⟨g',?_,hh0,hh1,rfl⟩;have hst:st.setR R0 (.list e b v nl none)={ st with roots:=st.roots.set R0 (.list e b v nl none),dirty:=st.dirty }:=rfl;rw[hst];refine hi.surg ph pr hs (fun l hpl=> ?_) (fun rg hrg b0 hb0=> ?_) ⟨hok.chg,hok.base,hok.S,fun b0 l h=> ?_⟩ (fun r p row hrw=> ?_) (fun r _=>hh0 r) ⟨fun b0 hb0=> ?_,fun r b0 q hq=>absurd hq (hd2 r)⟩
 ·obtain⟨r,p⟩:=l;rcases hpl.2 with h | h
  ·simp only at h;subst h;exact hh0 r
  ·exact hh1 _ (hpr r h).1
 ·refine⟨?_,rfl⟩;cases rg with
  | none=>exact hb0
  | some r=>
   rcases hb0 with hb0 | ⟨p,hb0⟩
   ·exact .inl hb0
   ·exact .inr ⟨p,ho2 _ _ hb0 fun i j=>(hpr r (hrg r rfl)).2 i j p⟩
 ·obtain⟨l0,h0,_⟩:=ho3 b0 l h;obtain⟨h1,h2,h3⟩:=hok.own b0 l0 h0;exact⟨h1,h2,h3⟩
 ·rcases Ap3 (st:=st) (R0:=R0) (k:= .list e b v nl none) r with⟨e1,e2⟩ | ⟨e1,e2⟩ | e1
  ·left
   have hne:st.rk r≠.dead:=fun e0=>by rw[e1,e0,Bj]at hrw;cases hrw
   obtain⟨h1,h2,h3⟩:=hk r e2 hne;exact⟨e1,h1,h2,h3,fun b0 p hb0=>⟨ho2 _ _ hb0 fun i j=>(hpr r h3).2 i j p,rfl⟩⟩
  ·right
   subst e1;rw[e2]at hrw;cases p with
   | nil=>
    rw[A6,hv]at hrw;cases hrw;have hx:∀(i:Nat) (c:List C),(xs.mapIdx fun i y=>Bk none r i b y)[i]? =some c->∃y,xs[i]? =some y/\c=Cb r i 0 b y:=fun i c hc=>by
     rw[List.getElem?_mapIdx,Option.map_eq_some_iff]at hc;obtain⟨y,hy,rfl⟩:=hc;exact⟨y,hy,rfl⟩
    have hlx:(xs.mapIdx fun i y=>Bk none r i b y).length=els.length:=by simp[hl]
    cases hrow with
    | nil _ _ hd=>
     have:xs=[]:=List.eq_nil_of_length_eq_zero hl.symm;subst this;exact .nil _ _ ((hh0 r).trans hd)
    | zero _ A hd=>
     have:xs=[]:=List.eq_nil_of_length_eq_zero hl.symm;subst this;exact .zero _ A ((hh0 r).trans hd)
    | full _ _ _ _ b0 base n cap cs f h=>
     have cell:∀(i:Nat) (c:List C) (k:Nat) (x:C),(xs.mapIdx fun i y=>Bk none r i b y)[i]? =some c->c[k]? =some x->∃c0 q0 V,els[i]? =some c0/\c0[k]? =some q0/\x=Qy r i k V/\((V.t.isSl=true->∃e' a' zs,V=⟨.sl e' a',zs⟩)/\∀u,Au w g q0 u->Fit g (src i k) V u):=fun i c k x h1 h2=>by
      obtain⟨y,hy,rfl⟩:=hx i c h1;have hi0:i<els.length:=by rw[hl];exact(List.getElem?_eq_some_iff.1 hy).1
      have hc0:els[i]? =some els[i]:=List.getElem?_eq_getElem hi0;obtain⟨q1,q2⟩:=hel i _ y hc0 hy;rw[Fn,Nat.zero_add,Option.map_eq_some_iff]at h2;obtain⟨V,hV,rfl⟩:=h2;have hk0:k<els[i].length:=by rw[q1,<-Cr b y];exact(List.getElem?_eq_some_iff.1 hV).1
      have hq0:els[i][k]? =some els[i][k]:=List.getElem?_eq_getElem hk0;refine⟨_,_,V,hc0,hq0,rfl,fun hs=> ?_,fun u hu=>q2 k _ V u hq0 hV hu⟩;rcases G1 b y k V hf hV with⟨kd,z,rfl⟩ | ⟨bv,rfl⟩ | ⟨e',a',zs,rfl,_⟩
      ·cases hs
      ·cases hs
      ·exact⟨e',a',zs,rfl⟩
     refine .full _ _ _ _ b0 base n cap cs f ⟨(hh0 r).trans h.hd,ho2 _ _ h.own fun i j=>hsrc i j,h.heap,by rw[hlx];exact h.len,h.hcap,h.hmax,h.fit,h.pos,fun i c hc=> ?_,fun i c k x h1 h2=> ?_,fun i c k x h1 h2=> ?_,fun e0=> ?_⟩
     ·obtain⟨y,hy,rfl⟩:=hx i c hc;have hi0:i<els.length:=by rw[hl];exact(List.getElem?_eq_some_iff.1 hy).1
      have hc0:els[i]? =some els[i]:=List.getElem?_eq_getElem hi0;rw[Bf,<-(hel i _ y hc0 hy).1];exact h.size i _ hc0
     ·obtain⟨c0,q0,V,h3,h4,_⟩:=cell i c k x h1 h2;exact h.cell i c0 k q0 h3 h4
     ·obtain⟨c0,q0,V,h3,h4,rfl,h5,h6⟩:=cell i c k x h1 h2;have hfit:=h6 _ (h.rep i c0 k q0 h3 h4);cases hsl:V.t.isSl with
      | false=>exact hfit.2 hsl _ _ _ _ _
      | true=>
       obtain⟨e',a',zs,rfl⟩:=h5 hsl;have hu:=hfit.1 hsl;simp only[Qy];exact .hd _ _ (by rw[hh2];exact hu)
     ·intro e1;rw[e1]at hlx;exact h.nonil e0 (List.eq_nil_of_length_eq_zero hlx.symm)
   | cons q p=>
    obtain⟨_,rfl,y,hy,hsr⟩:=Bl hrw;obtain⟨i,j⟩:=q;have hy:xs[i]? =some y:=by rw[<-hv];exact hy
    have hsr:Bg 0 b y j=some row:=hsr;have hsr2:=Fw b 0 y j;rw[Nat.zero_add,hsr]at hsr2;have hsr3:=hsr2.symm;rw[Option.bind_eq_some_iff]at hsr3;obtain⟨V,hV,hVr⟩:=hsr3;have hrel:Row.Rel (fun _ _=>False) (fun _ _=>False) row row:=Lm hVr fun e a zs hz=>by
     rcases G1 b y j V hf hV with⟨kd,z,rfl⟩ | ⟨bv,rfl⟩ | ⟨e',a',zs',rfl,hfa⟩
     ·cases hz
     ·cases hz
     ·cases hz;exact hfa
    have:=hsub i y j V row hy hV hVr;cases hsrc:src i j with
    | none=>
     rw[hsrc]at this;obtain⟨e',rfl⟩:=this;exact .nil _ _ (by rw[hh2,hsrc];rfl)
    | some l=>
     rw[hsrc]at this;exact this.rel (fun _ _ h=>h.elim) (fun _ _ h=>h.elim) (by rw[hh2,hsrc];rfl) (fun b0 hb0=>⟨ho1 _ _ _ _ hb0 hsrc,rfl⟩) hrel
  ·rw[e1,Bj]at hrw;cases hrw
 ·obtain⟨p,q,h1,h2,h3⟩:=hi.dirt.1 b0 hb0;by_cases hx:∃ij:Nat×Nat,src ij.1 ij.2=some (p.1,q)
  ·obtain⟨⟨i,j⟩,hx⟩:=hx;rcases hd1 with hd1 | hd1
   ·rw[hd1]at h1;cases h1
   ·exact⟨(R0,true),[(i,j)],by simpa using hd1,ho1 _ _ _ _ h2 hx,by simp⟩
  ·exact⟨p,q,h1,ho2 _ _ h2 (fun i j hh=>hx ⟨(i,j),hh⟩),h3⟩
end
end Go.Pu
/-
  Own work. Append to an owned list, whatever its elements hold.
-/
namespace Go.Pu
open Go Go.RowKit
set_option linter.unusedVariables false
set_option linter.unusedSectionVars false
theorem Anx {w:World}{g:G}{rg:Rg}{els:List (List C)}{s:Nat}{u:Value}(h:Au w g (.ro rg els) u)(hs:∀(i:Nat) (c:List C),els[i]? =some c->c.length=s):
 ∃(A:Option Addr) (cap:Nat) (fn:Nat->Nat->Value),u= .slice A els.length cap/\
  (els≠[]->∃ad,A=some ad/\∀i k,i<els.length->k<s->w.cell? (ad.add (i*s+k))=some (fn i k))/\
  ∀(i:Nat) (c:List C) (k:Nat) (q:C),els[i]? =some c->c[k]? =some q->Au w g q (fn i k):=by
 cases h with
 | ro0 _ A cap=>exact⟨A,cap,fun _ _=>undef,rfl,fun h=>absurd rfl h,fun i c k q h=>by simp at h⟩
 | ro _ _ bb off n cap s' f hn hcap hm hS hs' hsz hcell hrep=>
  refine⟨some ⟨bb,off,none⟩,cap,f,by rw[hn],fun hne=>⟨_,rfl,fun i k hi hk=> ?_⟩,fun i c k q h1 h2=>hrep i c k q h1 h2⟩;have hx:els[i]? =some (els[i]'hi):=List.getElem?_eq_getElem hi;have hss:s' =s:=by rw[<-hs i _ hx,hsz i _ hx]
  subst hss;rw[Gz];exact hcell i _ k _ hx (List.getElem?_eq_getElem (by rw[hs i _ hx];exact hk))
theorem Avi {P:Program}{w:World}{g:G}{r:Nat}{nl:Bool}{e:TypeId}{els:List (List C)}(h:A4 P w g (r,[]) (.row false nl e els))(hs:∀(i:Nat) (c:List C),els[i]? =some c->c.length=Az P e):
 ∃(fo:Nat->Nat->Value) (bOld:Option Nat),(∀b0,bOld=some b0->g.own b0=some (r,[]))/\(g.hdr (r,[])= .slice none 0 0->bOld=none)/\
  ((els.length=0/\(g.hdr (r,[])= .slice none 0 0\/∃a,g.hdr (r,[])= .slice (some a) 0 0))\/∃b0 base cap cs,g.hdr (r,[])= .slice (some ⟨b0,base,none⟩) els.length cap/\bOld=some b0/\w.heap[b0]? =some (.cells cs e (0,0))/\els.length<=cap/\cap<=maxLen/\base+cap*Az P e=cs.size/\
   (∀i k,i<els.length->k<Az P e->cs[base+(i*Az P e+k)]? =some (fo i k)))/\
  ∀(i:Nat) (c:List C) (k:Nat) (q:C),els[i]? =some c->c[k]? =some q->Au w g q (fo i k):=by
 cases h with
 | nil _ _ hd=>exact⟨fun _ _=>undef,none,(fun _ h=>(by cases h)),fun _=>rfl,.inl ⟨rfl,.inl hd⟩,fun i c k q h=>by simp at h⟩
 | zero _ A hd=>exact⟨fun _ _=>undef,none,(fun _ h=>(by cases h)),fun _=>rfl,.inl ⟨rfl,.inr ⟨A,hd⟩⟩,fun i c k q h=>by simp at h⟩
 | full _ _ _ _ b0 base n cap cs f hrf=>
  have hn:=hrf.len;subst hn;have hd:g.hdr (r,[])= .slice (some ⟨b0,base,none⟩) els.length cap:=hrf.hd;refine⟨f,some b0,fun _ h=>(by cases h;exact hrf.own),fun h=>(by rw[hd]at h;cases h),.inr ⟨b0,base,cap,cs,hd,rfl,hrf.heap,hrf.hcap,hrf.hmax,hrf.fit,fun i k hi hk=> ?_⟩,fun i c k q h1 h2=>hrf.rep i c k q h1 h2⟩;have hx:els[i]? =some (els[i]'hi):=List.getElem?_eq_getElem hi;exact hrf.cell i _ k _ hx (List.getElem?_eq_getElem (by rw[hs i _ hx];exact hk))
structure A4x (X:Ctx)(r:Nat)(w w' :World)(g g' :G)(v' :Value):Prop where
 ok:GOK X g' w'
 S:g'.S=g.S
 top:g'.hdr (r,[])=v'
 hdr:∀l,l≠(r,[])->g'.hdr l=g.hdr l
 own:∀b l,g.own b=some l->g'.own b=some l
 back:∀b l,l≠(r,[])->g'.own b=some l->g.own b=some l
 keep:∀b,b<w.heap.size->g.own b≠some (r,[])->w'.heap[b]? =w.heap[b]?
 new:g.hdr (r,[])= .slice none 0 0->∀b,b<w.heap.size->w'.heap[b]? =w.heap[b]?
 size:w.heap.size<=w'.heap.size
theorem Se {X:Ctx}{w:World}{g:G}{r:Nat}{nl:Bool}{e t ty:TypeId}{els els2:List (List C)}{ti:TypeInfo}{z:Value}{A:Option Addr}{cap2:Nat}{fn:Nat->Nat->Value}
 (hok:GOK X g w) (hrow:A4 X.P w g (r,[]) (.row false nl e els)) (hu:X.P.underlying t=some (.slice e)) (hinfo:X.P.info? e=some ti) (hzero:ti.zero=some z) (hzs:z.cells.size=Az X.P e) (h0:0<Az X.P e)
 (hs1:∀(i:Nat) (c:List C),els[i]? =some c->c.length=Az X.P e) (hs2:∀(i:Nat) (c:List C),els2[i]? =some c->c.length=Az X.P e)
 (hfit:Aao (De X.P e) (els.length+els2.length)=true) (hby:0<De X.P e)
 (hcells:els2≠[]->∃ad,A=some ad/\∀i k,i<els2.length->k<Az X.P e->w.cell? (ad.add (i*Az X.P e+k))=some (fn i k))
 (hreps:∀(i:Nat) (c:List C) (k:Nat) (q:C),els2[i]? =some c->c[k]? =some q->Au w g q (fn i k)/\(fn i k).oneCell' =true)
 (hC1:∀(i:Nat) (c:List C) (k:Nat) (q:C),els[i]? =some c->c[k]? =some q->C.Ok (fun l=>l≠(r,[])) (fun rg=>rg≠some r) q)
 (hC2:∀(i:Nat) (c:List C) (k:Nat) (q:C),els2[i]? =some c->c[k]? =some q->C.Ok (fun l=>l≠(r,[])) (fun rg=>rg≠some r) q):
 ∃v' w' g',(Builtin.append_ #[t,t] ty #[g.hdr (r,[]),.slice A els2.length cap2]).run X.P w= .ok v' w'∧A4x X r w w' g g' v'∧A4 X.P w' g' (r,[]) (.row false nl e (els++els2)):=by
 have hisz:ti.size=Az X.P e:=by simp[Az,hinfo]
 have hib:ti.bytes=De X.P e:=by simp[De,hinfo]
 simp only[Aao,decide_eq_true_eq]at hfit;obtain⟨fit1,fit2⟩:=hfit;by_cases hm0:els2=[]
 ·subst hm0;have hcap:∃B n c,g.hdr (r,[])= .slice B n c/\n<=c:=by
   cases hrow with
   | nil _ _ hd=>exact⟨_,_,_,hd,Nat.le_refl _⟩
   | zero _ A hd=>exact⟨_,_,_,hd,Nat.le_refl _⟩
   | full _ _ _ _ bb base n cap cs f hrf=>exact⟨_,_,_,hrf.hd,hrf.hcap⟩
  obtain⟨B,n,c',h1,h2⟩:=hcap;refine⟨g.hdr (r,[]),w,g,by rw[h1];exact Qw hu hinfo B n c' h2 A cap2,⟨hok,rfl,rfl,fun _ _=>rfl,fun _ _ h=>h,fun _ _ _ h=>h,fun _ _ _=>rfl,fun _ _ _=>rfl,Nat.le_refl _⟩,by rw[List.append_nil];exact hrow⟩
 ·obtain⟨ad,rfl,hcell⟩:=hcells hm0;have hone:∀i k,i<els2.length->k<Az X.P e->(fn i k).oneCell' =true:=fun i k hi hk=>by
   have hx:els2[i]? =some (els2[i]'hi):=List.getElem?_eq_getElem hi;exact(hreps i _ k _ hx (List.getElem?_eq_getElem (by rw[hs2 i _ hx];exact hk))).2
  obtain⟨fo,bOld,hbo,hbn0,hv,hro⟩:=Avi hrow hs1;obtain⟨v',w',hr',hA⟩:=Qx (P:=X.P) (w:=w) (ty:=ty) hu hinfo hzero (by rw[hzs,hisz]) (by rw[hisz];exact h0) (g.hdr (r,[])) els.length els2.length fo fn bOld hv ad cap2 (List.length_pos_iff.2 hm0) hcell hone (by simp only[maxLen];omega) (by rw[hib];exact fit1);obtain⟨⟨b1,base,cap,cs,rfl,hcap1,hmax,hfit,hh,hco,hcn,hbb,hkeep⟩,hos,htape,hout,hsize⟩:=hA;have hown1:∀l,g.own b1=some l->l=(r,[]):=fun l hl=>by
   rcases hbb with hbb | hbb
   ·have:=hbo b1 hbb.symm;rw[hl]at this;exact Option.some.inj this
   ·have:=(hok.own b1 _ hl).2.1;omega
  have hS1:¬g.S b1:=by
   rcases hbb with hbb | hbb
   ·exact(hok.own b1 _ (hbo b1 hbb.symm)).2.2
   ·intro hS;have:=(hok.S b1 hS).1;omega
  have hO1:X.O0 b1\/X.B0<=b1:=by
   rcases hbb with hbb | hbb
   ·exact(hok.own b1 _ (hbo b1 hbb.symm)).1
   ·exact .inr (Nat.le_trans hok.base hbb)
  have hlt1:b1<w'.heap.size:=(Array.getElem?_eq_some_iff.1 hh).1
  let g' :G:=⟨g.S,fun b0=>if b0=b1 then some (r,[])else g.own b0,fun l=>if l=(r,[])then .slice (some ⟨b1,base,none⟩) (els.length+els2.length) cap else g.hdr l⟩
  have hhd:∀l,l≠(r,[])->g'.hdr l=g.hdr l:=fun l h=>by simp only[g'];rw[if_neg h]
  have hreg:∀rg,rg≠some r->∀b0,g.reg rg b0->g'.reg rg b0/\w'.heap[b0]? =w.heap[b0]? :=fun rg hne b0 hb0=>by
   have hbne:b0≠b1:=fun e0=>by
    subst e0;cases rg with
    | none=>exact hS1 hb0
    | some r' =>
     rcases hb0 with hb0 | ⟨q,hb0⟩
     ·exact hS1 hb0
     ·have:=hown1 _ hb0;cases this;exact hne rfl
   have hlt0:b0<w.heap.size:=by
    cases rg with
    | none=>exact(hok.S b0 hb0).1
    | some r' =>
     rcases hb0 with hb0 | ⟨q,hb0⟩
     ·exact(hok.S b0 hb0).1
     ·exact(hok.own b0 _ hb0).2.1
   refine⟨?_,hkeep b0 hlt0 hbne⟩;cases rg with
   | none=>exact hb0
   | some r' =>
    rcases hb0 with hb0 | ⟨q,hb0⟩
    ·exact .inl hb0
    ·exact .inr ⟨q,by simp only[g'];rw[if_neg hbne];exact hb0⟩
  refine⟨_,w',g',hr',⟨⟨hok.chg.trans ⟨hos,htape,hout,hsize,fun k hk hO=>hkeep k (Nat.lt_of_lt_of_le hk hok.base) (fun e0=>by subst e0;rcases hO1 with h | h;exact hO h;omega)⟩,Nat.le_trans hok.base hsize,fun b0 hb0=>⟨Nat.lt_of_lt_of_le (hok.S b0 hb0).1 hsize,(hok.S b0 hb0).2⟩,fun b0 l hl=> ?_⟩,rfl,by simp[g'],hhd,fun b0 l hl=> ?_,fun b0 l hne hl=> ?_,fun b0 hb0 hne=>hkeep b0 hb0 fun e0=> ?_,fun hnil b0 hb0=>hkeep b0 hb0 fun e0=> ?_,hsize⟩,?_⟩
  ·simp only[g']at hl;split at hl
   ·rename_i e0;subst e0;cases hl;exact⟨hO1,hlt1,hS1⟩
   ·obtain⟨h1,h2,h3⟩:=hok.own b0 l hl;exact⟨h1,Nat.lt_of_lt_of_le h2 hsize,h3⟩
  ·simp only[g'];by_cases e0:b0=b1
   ·subst e0;rw[if_pos rfl,hown1 _ hl]
   ·rw[if_neg e0];exact hl
  ·simp only[g']at hl;split at hl
   ·simp only[Ah]at hl;exact absurd hl.symm hne
   ·exact hl
  ·subst e0;rcases hbb with hbb | hbb
   ·exact hne (hbo b0 hbb.symm)
   ·omega
  ·subst e0;rw[hbn0 hnil]at hbb;rcases hbb with hbb | hbb
   ·cases hbb
   ·omega
  ·have hl2:(els++els2).length=els.length+els2.length:=by simp
   refine .full _ _ _ _ b1 base (els.length+els2.length) cap cs (fun i k=>if i<els.length then fo i k else fn (i - els.length) k) ⟨by simp[g',Aen],by simp[g'],hh,hl2.symm,hcap1,hmax,hfit,h0,fun i c hc=> ?_,fun i c k q h1 h2=> ?_,fun i c k q h1 h2=> ?_,fun _ e0=> ?_⟩
   ·rw[List.getElem?_append]at hc;split at hc
    ·exact hs1 i c hc
    ·exact hs2 _ c hc
   ·have hkk:k<Az X.P e:=by
     have hlt:=(List.getElem?_eq_some_iff.1 h2).1;rw[List.getElem?_append]at h1;split at h1
     ·rw[hs1 i c h1]at hlt;exact hlt
     ·rw[hs2 _ c h1]at hlt;exact hlt
    by_cases hlt:i<els.length
    ·rw[if_pos hlt];exact hco i k hlt hkk
    ·rw[if_neg hlt];have hi2:i<(els++els2).length:=(List.getElem?_eq_some_iff.1 h1).1;have:=hcn (i - els.length) k (by omega) hkk
     rwa [show els.length+(i - els.length)=i from by omega]at this
   ·rw[List.getElem?_append]at h1;split at h1
    ·rename_i hlt;rw[if_pos hlt];exact(hro i c k q h1 h2).keep hhd hreg (hC1 i c k q h1 h2)
    ·rename_i hlt;rw[if_neg hlt];exact(hreps _ c k q h1 h2).1.keep hhd hreg (hC2 _ c k q h1 h2)
   ·have:els2=[]:=by simp at e0;exact e0.2
    exact hm0 this
end Go.Pu
/-
  Own work. Stores into elements that hold slices of their own.
-/
namespace Go.Pu
open Go Go.RowKit
set_option linter.unusedVariables false
set_option linter.unusedSectionVars false
section
variable {X:Ctx} {D:Nat->Prop} {Γ:List FE} {st:St} {ρ:Env} {a:Act} {w w' :World} {g g' :G}
theorem Ae0 {k:RK}(h:Ak8 k=true):k= .dead:=by
 cases k<;>first | rfl | cases h
theorem Mv {r0:Nat}{rs:List Nat}(h:st.freed r0 rs=true):Ft rs=true/\rs.contains r0=false/\(∀r,r∈rs->st.rk r= .dead)/\st.rk r0= .dead/\
 st.slots.all (SV.okR (fun r=>Nat.blt r st.nr) (fun r=>Nat.blt r st.nr && !Nat.beq r r0 && !rs.contains r))=true/\
 (∀r,r≠r0->st.rk r≠.dead->(st.rk r).okR (fun r=>Nat.blt r st.nr) (fun r=>Nat.blt r st.nr && !Nat.beq r r0 && !rs.contains r)=true/\Nat.blt r st.nr=true/\(Nat.blt r st.nr && !Nat.beq r r0 && !rs.contains r)=true)/\
 (∀r,(Nat.blt r st.nr && !Nat.beq r r0 && !rs.contains r)=true->r≠r0/\r∉rs):=by
 unfold St.freed St.okR at h;simp only[Ai,Bool.not_eq_true']at h;obtain⟨⟨⟨⟨h1,h2⟩,h3⟩,h4⟩,h5,h6⟩:=h;have hd:∀r,r∈rs->st.rk r= .dead:=fun r hr=>Ae0 (List.all_eq_true.1 h3 r hr)
 refine⟨h1,h2,hd,Ae0 h4,h5,fun r hne hnd=> ?_,fun r hr=> ?_⟩
 ·have hlt:Nat.blt r st.nr=true:=by simpa using V2 hnd
  have hnr:rs.contains r=false:=by
   cases hc:rs.contains r with
   | false=>rfl
   | true=>exact absurd (hd r (by simpa using hc)) hnd
  refine⟨Rs h6 rfl r,hlt,?_⟩;rw[hlt,T4 hne,hnr];rfl
 ·simp only[Ai,Bool.not_eq_true']at hr;refine⟨fun e=>by subst e;simp at hr,fun e=> ?_⟩;have:rs.contains r=true:=by simpa using e
  rw[this]at hr;cases hr.2
inductive Lj (st:St)(r0:Nat):Ty->SC->At->Option Nat->Prop
 | nil (e:TypeId) (b:Ty):Lj st r0 (.sl e b) .nil (.nil (.sl e b)) none
 | own (e:TypeId) (b:Ty) (r:Nat) (x:At) (nl:Bool) (hr:st.rk r= .list e b x nl none) (hf:b.flat=true) (ht:x.ty st.ts=some (.sl e b)) (hne:r≠r0) (hx:st.fix.contains r=false):Lj st r0 (.sl e b) (.h r) x (some r)
 | sc (t:Ty) (x:At) (hs:t.scalar=true) (ht:x.ty st.ts=some t):Lj st r0 t (.v x) x none
theorem Alz {r0:Nat}{t:Ty}{ts:List Ty}{c:SC}{cs:List SC}{l:List (At×Option Nat)}(h:st.takeN r0 (t::ts) (c::cs)= .ok l):∃x o l',l=(x,o)::l'∧st.takeN r0 ts cs= .ok l'∧Lj st r0 t c x o:=by
 simp only[St.takeN]at h;obtain⟨l',hl,h⟩:=Al h;split at h
 ·cases h;exact⟨_,_,l',rfl,hl,.nil _ _⟩
 ·split at h
  ·rename_i e' b' val nl hr;split at h
   ·rename_i hc;obtain⟨rfl,rfl,hf,ht,hne,hx⟩:=hc;cases h;refine⟨_,_,l',rfl,hl,.own _ _ _ val nl hr hf ht (fun e0=> ?_) (by simpa using hx)⟩;subst e0;simp at hne
   ·cases h
  ·cases h
 ·rename_i x hns;split at h
  ·rename_i hc;cases h;exact⟨_,_,l',rfl,hl,.sc _ _ hc.1 hc.2⟩
  ·cases h
 ·cases h
theorem O3 {r0:Nat}:∀(ts:List Ty) (cs:List SC) (l:List (At×Option Nat)),st.takeN r0 ts cs= .ok l->cs.length=ts.length/\l.length=ts.length/\
 ∀(j:Nat) (c:SC) (t:Ty) (x:At) (o:Option Nat),ts[j]? =some t->cs[j]? =some c->l[j]? =some (x,o)->Lj st r0 t c x o
 | [],[],l,h=>by simp only[St.takeN]at h;cases h;exact⟨rfl,rfl,fun j c t x o h=>by simp at h⟩
 | t::ts,c::cs,l,h=>by
  obtain⟨x,o,l',rfl,h1,h2⟩:=Alz h;obtain⟨e1,e2,e3⟩:=O3 ts cs l' h1;refine⟨by simp[e1],by simp[e2],fun j c' t' x' o' q1 q2 q3=> ?_⟩;cases j with
  | zero=>
   simp only[List.getElem?_cons_zero,Ah,Prod.mk.injEq]at q1 q2 q3;obtain⟨rfl,rfl⟩:=q3;subst q1 q2;exact h2
  | succ j=>exact e3 j c' t' x' o' (by simpa using q1) (by simpa using q2) (by simpa using q3)
 | [],_::_,_,h=>by simp[St.takeN]at h
 | _::_,[],_,h=>by simp[St.takeN]at h
theorem Lj.ty {r0:Nat}{t:Ty}{c:SC}{x:At}{o:Option Nat}(h:Lj st r0 t c x o):x.ty st.ts=some t:=by
 cases h with
 | nil=>rfl
 | own _ _ _ _ _ _ _ ht=>exact ht
 | sc _ _ _ ht=>exact ht
theorem Kz {l:List (At×Option Nat)}{j:Nat}{x:At}{r:Nat}(h:l[j]? =some (x,some r)):r∈Da l:=by
 unfold Da;rw[List.mem_filterMap];exact⟨_,List.mem_of_getElem? h,rfl⟩
theorem Nl:∀{l:List (At×Option Nat)},Ft (Da l)=true->∀{j j' :Nat} {x x' :At} {r:Nat},l[j]? =some (x,some r)->l[j']? =some (x',some r)->j=j'
 | [],_,_,_,_,_,_,h,_=>by simp at h
 | (x0,none)::l,hn,j,j',x,x',r,h,h' =>by
  have hn:Ft (Da l)=true:=hn;cases j with
  | zero=>simp at h
  | succ j=>cases j' with
   | zero=>simp at h'
   | succ j' =>exact congrArg (·+1) (Nl hn (by simpa using h) (by simpa using h'))
 | (x0,some r0)::l,hn,j,j',x,x',r,h,h' =>by
  have hn:(!(Da l).contains r0 && Ft (Da l))=true:=hn;simp only[Ai,Bool.not_eq_true']at hn;have no:∀{j:Nat} {x:At},l[j]? =some (x,some r0)->False:=fun h=>by
   have:(Da l).contains r0=true:=by simpa using Kz h
   rw[this]at hn;cases hn.1
  cases j with
  | zero=>cases j' with
   | zero=>rfl
   | succ j' =>simp only[List.getElem?_cons_zero,Ah,Prod.mk.injEq]at h;obtain⟨_,rfl⟩:=h;exact(no (by simpa using h')).elim
  | succ j=>cases j' with
   | zero=>simp only[List.getElem?_cons_zero,Ah,Prod.mk.injEq]at h';obtain⟨_,rfl⟩:=h';exact(no (by simpa using h)).elim
   | succ j' =>exact congrArg (·+1) (Nl hn.2 (by simpa using h) (by simpa using h'))
theorem Lj.fit (htyp:ρ.map V.t=st.ts){r0:Nat}{t:Ty}{c:SC}{x:At}{o:Option Nat}(h:Lj st r0 t c x o){u:Value}(hu:Au w g (c.enc ρ) u):Fit g (o.map fun r=>(r,[])) (x.get ρ) u:=by
 have hty:=At.ty_get htyp h.ty;cases h with
 | nil e b=>
  simp only[SC.enc]at hu;exact⟨fun _=>(by cases hu;rfl),fun h=>by rw[hty]at h;cases h⟩
 | own e b r x nl hr hf ht hne hx=>
  simp only[SC.enc]at hu;exact⟨fun _=>Cu hu,fun h=>by rw[hty]at h;cases h⟩
 | sc t x hs ht=>
  simp only[SC.enc]at hu;cases t with
  | int k=>
   rw[V.int_of hty]at hu ⊢;refine⟨fun h=>(by cases h),fun _ w2 g2 r2 i2 k2=> ?_⟩;simp only[V.c]at hu;cases hu;exact .int _ _
  | bool=>
   rw[V.bool_of hty]at hu ⊢;refine⟨fun h=>(by cases h),fun _ w2 g2 r2 i2 k2=> ?_⟩;simp only[V.c]at hu;cases hu;exact .bool _
  | _=>cases hs
def Ajb (q:C):Prop:=(∃k z,q= .int k z)\/(∃b,q= .bool b)\/q= .nil\/∃l,q= .hd l
theorem Ajb.world {q:C}{u:Value}(h:Ajb q)(hq:Au w g q u):Au w' g q u:=by
 rcases h with⟨k,z,rfl⟩ | ⟨b,rfl⟩ | rfl | ⟨l,rfl⟩
 ·cases hq;exact .int _ _
 ·cases hq;exact .bool _
 ·cases hq;exact .nil
 ·exact .hd _ _ (Cu hq)
theorem Lj.plain (hi:Aw X D st ρ a w g){r0:Nat}{t:Ty}{c:SC}{x:At}{o:Option Nat}(h:Lj st r0 t c x o):Ajb (c.enc ρ):=by
 have hty:=At.ty_get hi.typ h.ty;cases h with
 | nil e b=>simp only[SC.enc];exact .inr (.inr (.inl rfl))
 | own e b r x nl hr hf ht hne hx=>simp only[SC.enc];exact .inr (.inr (.inr ⟨_,rfl⟩))
 | sc t x hs ht=>
  simp only[SC.enc];cases t with
  | int k=>rw[V.int_of hty];exact .inl ⟨_,_,rfl⟩
  | bool=>rw[V.bool_of hty];exact .inr (.inl ⟨_,rfl⟩)
  | _=>cases hs
theorem Yz {b:Ty}{y:b.den}{j:Nat}{V:V}(hf:b.flat1=true)(h:(Bv b y)[j]? =some V)(r i k:Nat):Ajb (Qy r i k V):=by
 rcases G1 b y j V hf h with⟨kd,z,rfl⟩ | ⟨bv,rfl⟩ | ⟨e,a,xs,rfl,_⟩
 ·exact .inl ⟨_,_,rfl⟩
 ·exact .inr (.inl ⟨_,rfl⟩)
 ·exact .inr (.inr (.inr ⟨_,rfl⟩))
theorem L8 {b:Ty}{y:b.den}{j:Nat}{V:V}(hf:b.flat1=true)(h:(Bv b y)[j]? =some V){r i k:Nat}{u:Value}(hu:Au w g (Qy r i k V) u):Fit g (some (r,[(i,k)])) V u:=by
 rcases G1 b y j V hf h with⟨kd,z,rfl⟩ | ⟨bv,rfl⟩ | ⟨e,a,xs,rfl,_⟩
 ·refine⟨fun h=>(by cases h),fun _ w2 g2 r2 i2 k2=> ?_⟩;cases hu;exact .int _ _
 ·refine⟨fun h=>(by cases h),fun _ w2 g2 r2 i2 k2=> ?_⟩;cases hu;exact .bool _
 ·exact⟨fun _=>Cu hu,fun h=>by cases h⟩
theorem U0 {b:Ty}{y:b.den}{j:Nat}{V:V}(hf:b.flat1=true)(h:(Bv b y)[j]? =some V):∀e a xs,V=⟨.sl e a,xs⟩->a.flat=true:=fun e a xs hz=>by
 rcases G1 b y j V hf h with⟨kd,z,rfl⟩ | ⟨bv,rfl⟩ | ⟨e',a',zs',rfl,hfa⟩
 ·cases hz
 ·cases hz
 ·cases hz;exact hfa
theorem X6 (hi:Aw X D st ρ a w g){r:Nat}{e:TypeId}{b:Ty}{x:At}{nl:Bool}(hr:st.rk r= .list e b x nl none)(hf:b.flat=true)(ht:x.ty st.ts=some (.sl e b)){row:Row}(h:Hh (x.get ρ)=some row):A4 X.P w g (r,[]) row:=by
 rw[V.list_of (At.ty_get hi.typ ht)]at h;have hrow:=Ee hi hr;generalize (x.get ρ).as (.sl e b)=xs at h hrow;simp only[Hh,Ah]at h;subst h;refine hrow.rel (ml:=fun _ _=>False) (mr:=fun _ _=>False) (fun _ _ h=>h.elim) (fun _ _ h=>h.elim) rfl (fun b0 hb0=>⟨hb0,rfl⟩) (.row _ _ _ _ _ _ (fun h=>by cases h) (by simp) (fun i cs cs' q1 q2=> ?_) (fun i cs cs' k y y' q1 q2 q3 q4=> ?_))
 ·rw[List.getElem?_mapIdx,Option.map_eq_some_iff]at q1;rw[List.getElem?_map,Option.map_eq_some_iff]at q2;obtain⟨z,hz,rfl⟩:=q1;obtain⟨z',hz',rfl⟩:=q2;simp only[Bk,Bf,A2]
 ·rw[List.getElem?_mapIdx,Option.map_eq_some_iff]at q1;rw[List.getElem?_map,Option.map_eq_some_iff]at q2;obtain⟨z,hz,rfl⟩:=q1;obtain⟨z',hz',rfl⟩:=q2;rw[hz]at hz';cases hz'
  simp only[Bk,D8 r i none 0 b z hf]at q3;exact Hf b (.inl hf) z k y y' q3 q4
theorem Ae1 {l:Loc}{row:Row}{P:Program}(h:A4 P w g l row)(hr:Row.Rel (fun _ _=>False) (fun _ _=>False) row row)(hb:∀b,g.own b=some l->w'.heap[b]? =w.heap[b]?):A4 P w' g l row:=
 h.rel (fun _ _ h=>h.elim) (fun _ _ h=>h.elim) rfl (fun b0 hb0=>⟨hb0,hb b0 hb0⟩) hr
theorem Ad3 (b:Ty)(k m:Nat)(h:k+m<=b.n):C0 b.leaves k (b.cellTy k m)=b.leaves:=by
 have hl:=Ba b;have hc:(b.cellTy k m).length=m:=by unfold Ty.cellTy;simp;omega
 apply List.ext_getElem?;intro j;rw[Dc _ _ _ (by omega),hc];split
 ·rename_i hj;unfold Ty.cellTy;rw[List.getElem?_take,if_pos (by omega),List.getElem?_drop]
  congr 1;omega
 ·rfl
theorem Wg (hi:Aw X D st ρ a w g){r0:Nat}{b:Ty}{z:b.den}{ρ1:Env}{n k:Nat}{cs:List SC}{l:List (At×Option Nat)}(hg:Ref.get (ρ++ρ1) ⟨n,[]⟩=⟨b,z⟩)(ht:st.takeN r0 (b.cellTy k cs.length) cs= .ok l)(hk:k+cs.length<=b.n):
 Bv b (mkv b ((C0 (Es n b) k (l.map (·.1))).map (At.get (ρ++ρ1)))).1=C0 (Bv b z) k (l.map fun p=>p.1.get ρ):=by
 obtain⟨e1,e2,e3⟩:=O3 _ _ _ ht;have hll:l.length=cs.length:=by omega
 have hx:(l.map (·.1)).map (At.get (ρ++ρ1))=l.map fun p=>p.1.get ρ:=by
  rw[List.map_map];apply List.map_congr_left;intro p hp;obtain⟨j,hj⟩:=List.getElem?_of_mem hp;have hjl:j<cs.length:=by rw[<-hll];exact(List.getElem?_eq_some_iff.1 hj).1
  obtain⟨x,o⟩:=p;have:=e3 j _ _ x o (List.getElem?_eq_getElem (by omega)) (List.getElem?_eq_getElem hjl) hj;exact At.get_app (by rw[hi.len];exact At.ty_lt this.ty)
 have ho:(Es n b).map (At.get (ρ++ρ1))=Bv b z:=by
  unfold Es;rw[List.map_map];exact Tq n b [] z hg
 rw[P3,ho,hx];refine Wf b _ ?_
 rw[P3,Sd];have:(l.map fun p=>p.1.get ρ).map V.t=b.cellTy k cs.length:=by
  apply List.ext_getElem?;intro j;rw[List.getElem?_map,List.getElem?_map,Option.map_map];cases hj:l[j]? with
  | none=>
   rw[List.getElem?_eq_none (by rw[<-e2];exact List.getElem?_eq_none_iff.1 hj)];rfl
  | some p=>
   have hjl:j<l.length:=(List.getElem?_eq_some_iff.1 hj).1;have ht:(b.cellTy k cs.length)[j]? =some ((b.cellTy k cs.length)[j]'(by omega)):=List.getElem?_eq_getElem (by omega);obtain⟨x,o⟩:=p;have:=e3 j _ _ x o ht (List.getElem?_eq_getElem (by omega)) hj;rw[ht];simp only[Option.map_some,Function.comp,Ah];exact At.ty_get hi.typ this.ty
 rw[this,Ad3 b k _ hk]
theorem Tr (rs:List Nat)(h:Aw X D st ρ a w g):Aw X D (st.strike rs) ρ a w g:=X5 _ _ h
theorem Agu {r:Nat}(h:st.dirtyTo r=true):(st.dirty=[]\/st.dirty.contains (r,true)=true)/\∀r',st.dirty≠[(r',true)]:=by
 unfold St.dirtyTo at h;simp only[Bool.or_eq_true,Ai,Nat.blt_eq]at h;rcases h with h | ⟨h1,h2⟩
 ·have h:st.dirty=[]:=by simpa using h
  exact⟨.inl h,fun r' e=>by rw[h]at e;cases e⟩
 ·exact⟨.inr h1,fun r' e=>by rw[e]at h2;simp at h2⟩
theorem I0:∀(l:List (Nat×Bool)) (st:St),(Nd l st).dirty=st.dirty
 | [],st=>rfl
 | (r,io)::l,st=>by
  simp only[Nd];split
  ·exact I0 l _
  ·exact I0 l st
end
end Go.Pu
/-
  Own work. Stores into elements that hold slices of their own, from the operation.
-/
namespace Go.Pu
open Go Go.RowKit
set_option linter.unusedVariables false
set_option linter.unusedSectionVars false
section
variable {X:Ctx} {D:Nat->Prop} {Γ:List FE} {st:St} {ρ:Env} {a:Act} {w w' :World} {g g' :G}
variable {d:Nat} {x y:Operand} {t t' ty:TypeId} {ps:String} {af:Array Edge} {gd:Option (Nat×Bool)} {s:Cg} {nr:Bool}
theorem Abt {r:Nat}{e:TypeId}{b:Ty}{v i:At}{nl:Bool}{k:Nat}:RK.rows ρ r (.listH e b v nl i k) []=some (.row false nl e (((v.get ρ).as (.sl e b)).mapIdx fun i y=>Cb r i 0 b y)):=rfl
theorem Qa {r:Nat}{ex e:TypeId}{i:At}{k:Nat}{b:Ty}{v:At}{nl:Bool}{cs:List SC}{vy:SV}(h:L2 X.P st t cs r ex i k e b v nl= .ok s){Q:Env->Prop}(hxp:∀ρ a w g,Aw X D st ρ a w g->Q ρ->Bp X.P w g ((SV.ad r ex i k).enc ρ) (a.eval x))(hy:st.val y= .ok vy)(hcs:st.cells vy= .ok cs)
 (hr:st.rk r= .list e b v nl none\/∃k',st.rk r= .listH e b v nl i k'∧k<=k'∧k' <k+cs.length):∀ρ ρ' a w g,Q ρ->Aw X D st ρ a w g->st.wf=true->st.rok=true->Fk Γ (s.es.map (·.1)) ρ=some ρ'→
 (⟨none, .store t x y, ty, ps, af, gd⟩ : Oper).wp X.P a w (fun a' w' => (false = true → F9 D w w') ∧ ∃ g', Aw X D s.st ρ' a' w' g') (fun _ _ _ => False) := by
 unfold L2 at h;obtain⟨l,hl,h⟩:=Al h;simp only at h;generalize hst5:(((((st.bind b).bind b).bind (.sl e b)).kill false r).setR r .dead).strike (Da l)=st5 at h;by_cases hc:(cs.length=Az X.P t/\0<Az X.P t/\ex=e/\b.flat1=true/\v.ty st.ts=some (.sl e b)/\i.lt st.ts.length=true/\k+cs.length<=b.n/\b.n=Az X.P e/\st.dirtyTo r=true/\st5.freed r (Da l)=true/\st5.nr=st.nr/\(((st.bind b).bind b).bind (.sl e b)).wf=true/\st.rok=true/\st.wf=true)
 case neg=>rw[if_pos hc]at h;cases h
 rw[if_neg (fun hh=>hh hc)]at h;simp only[Ag]at h;subst h;obtain⟨hlt,h0,rfl,hf,hvt,hil,hkl,hbn,hdt,hfr,hnr5,_,_,_⟩:=hc;intro ρ ρ' a w g hQ hi hw hk hev;obtain⟨q1,q2⟩:=Iw hi hy hcs;have hvg:=V.list_of (At.ty_get hi.typ hvt)

 have hrow:A4 X.P w g (r,[]) (.row false nl ex (((v.get ρ).as (.sl ex b)).mapIdx fun i y=>Cb r i 0 b y)):=by
  rcases hr with hr | ⟨k',hr,_⟩
  ·exact Ee hi hr
  ·exact hi.inv.row (r,[]) _ (by simp only[hr];rfl)
 have hrowS:∀(i2 j:Nat) (y2:b.den) (row:Row),((v.get ρ).as (.sl ex b):List b.den)[i2]? =some y2->Bg 0 b y2 j=some row->¬(i2=i.nat ρ/\k<=j/\j<k+cs.length)->A4 X.P w g (r,[(i2,j)]) row:=fun i2 j y2 row h1 h2 h3=>by
  refine hi.inv.row (r,[(i2,j)]) row ?_
  rcases hr with hr | ⟨k',hr,hk1,hk2⟩
  ·simp only[hr,RK.rows,h1];exact h2
  ·simp only[hr,RK.rows,h1];have hb:(Nat.beq i2 (i.nat ρ) && Nat.beq j k')=false:=by
    cases hb:(Nat.beq i2 (i.nat ρ) && Nat.beq j k')with
    | false=>rfl
    | true=>
     simp only[Ai]at hb;have e1:=Nat.eq_of_beq_eq_true hb.1;have e2:=Nat.eq_of_beq_eq_true hb.2;exact absurd ⟨e1,by omega,by omega⟩ h3
   rw[hb];exact h2
 generalize hxs:(v.get ρ).as (.sl ex b)=zs at hrow hrowS hvg;obtain⟨v1,hv1,hev⟩:=Dn hev;obtain⟨v2,hv2,hev⟩:=Dn hev;obtain⟨v3,hv3,hev⟩:=Dn hev;have:=Db hev;subst this;simp only[Ex.den1,Ex.den,hvg,Option.bind_eq_some_iff,Ah]at hv1;obtain⟨z,hz,rfl⟩:=hv1;obtain⟨z0,z1,z2⟩:=Th hz;have hnx:st.nx=ρ.length:=by rw[hi.len];rfl
 have hg1:Ref.get (ρ++[⟨b,z⟩]) ⟨st.nx,[]⟩=⟨b,z⟩:=by
  have:(st.ref).get (ρ++[⟨b,z⟩])=⟨b,z⟩:=Ff hi.len;exact this
 have hleafs:=Wg hi (ρ1:=[⟨b,z⟩]) hg1 hl hkl;simp only[Ex.den1,Ex.den,Ah]at hv2;generalize hz2:(mkv b ((C0 (Es st.nx b) k (l.map (·.1))).map (At.get (ρ++[⟨b,z⟩])))).1=zn at hv2 hleafs;subst hv2;have hva:At.get ((ρ++[⟨b,z⟩])++[⟨b,zn⟩]) v=⟨.sl ex b,zs⟩:=by
  rw[List.append_assoc,At.get_app (by rw[hi.len];exact At.ty_lt hvt)];exact hvg
 have hia:At.get ((ρ++[⟨b,z⟩])++[⟨b,zn⟩]) i=i.get ρ:=by
  rw[List.append_assoc,At.get_app (by rw[hi.len];exact hil)]
 have hna:At.get ((ρ++[⟨b,z⟩])++[⟨b,zn⟩]) (.r ⟨st.nx+1,[]⟩)=⟨b,zn⟩:=by
  simp only[At.get,Ref.get,V.proj,hnx];simp[List.getD]
 simp only[Ex.den1,Ex.den,hva,hia,hna,V.as_self,Ah]at hv3;subst hv3;have hset:A8 zs (i.get ρ).int zn=zs.set (i.get ρ).int.toNat zn:=rfl;have hi3:Aw X D (((st.bind b).bind b).bind (.sl ex b)) (((ρ++[⟨b,z⟩])++[⟨b,zn⟩])++[⟨.sl ex b,A8 zs (i.get ρ).int zn⟩]) a w g:=by
  have:=hi.grow hw [⟨b,z⟩,⟨b,zn⟩,⟨.sl ex b,A8 zs (i.get ρ).int zn⟩];simpa[St.bind]using this
 have hv3g:(At.get (((ρ++[⟨b,z⟩])++[⟨b,zn⟩])++[⟨.sl ex b,A8 zs (i.get ρ).int zn⟩]) (.r ⟨st.nx+2,[]⟩)).as (.sl ex b)=A8 zs (i.get ρ).int zn:=by
  have:At.get (((ρ++[⟨b,z⟩])++[⟨b,zn⟩])++[⟨.sl ex b,A8 zs (i.get ρ).int zn⟩]) (.r ⟨st.nx+2,[]⟩)=⟨.sl ex b,A8 zs (i.get ρ).int zn⟩:=by
   simp only[At.get,Ref.get,V.proj,hnx];simp[List.getD]
  rw[this];exact V.as_self _ _
 rw[hset]at hv3g;obtain⟨b',base',hd1,hxe⟩:=hxp ρ a w g hi hQ;have hNe:i.nat ρ=(i.get ρ).int.toNat:=rfl;rw[hNe]at hrowS hxe;generalize hN:(i.get ρ).int.toNat=N at*;generalize hels:(zs.mapIdx fun i y=>Cb r i 0 b y)=els at hrow;have hget:els[N]? =some (Cb r N 0 b z):=by rw[<-hels,List.getElem?_mapIdx,z2];rfl
 have hgetE:∀(i2:Nat) (c:List C),els[i2]? =some c->∃y2,zs[i2]? =some y2/\c=Cb r i2 0 b y2:=fun i2 c hc=>by
  rw[<-hels,List.getElem?_mapIdx,Option.map_eq_some_iff]at hc;obtain⟨y2,hy2,rfl⟩:=hc;exact⟨y2,hy2,rfl⟩
 have hzl:els.length=zs.length:=by rw[<-hels];simp
 obtain⟨t1,t2,t3⟩:=O3 _ _ _ hl;have hll:l.length=cs.length:=by omega
 cases hrow with
 | nil=>simp at hget
 | zero=>simp at hget
 | full _ _ _ _ bb base n cap vs f hrf=>
  have hbb:b' =bb/\base' =base:=by
   have hd:=hrf.hd;rw[hd]at hd1;rcases hd1 with⟨_,_,h1⟩ | h1<;>simp[Aen]at h1
   exact⟨h1.1.1.symm,h1.1.2.symm⟩
  obtain⟨rfl,rfl⟩:=hbb;have hone:∀u∈(a.eval y).cells.toList,u.oneCell' =true:=fun u hu=>by
   obtain⟨j,hj⟩:=List.getElem?_of_mem hu;have hjl:j<cs.length:=by rw[<-q1];have:=(List.getElem?_eq_some_iff.1 hj).1;simpa using this
   obtain⟨u',hu',_,h1⟩:=q2 j _ (List.getElem?_eq_getElem (by rw[An,Ae];exact hjl));have:(a.eval y).cells[j]? =some u:=by simpa using hj
   rw[this]at hu';cases hu';exact h1
  have hoffle:base' +(N*Az X.P ex+k)+Az X.P t<=vs.size:=by
   have h1:=hrf.len;have h2:=hrf.hcap;have h3:=hrf.fit;have h4:=(List.getElem?_eq_some_iff.1 hget).1;have:(N+1)*Az X.P ex<=cap*Az X.P ex:=Nat.mul_le_mul_right _ (by omega);rw[Nat.add_mul,Nat.one_mul]at this;omega
  have hrun:=P5 (P:=X.P) (w:=w) (t:=t) (v:=a.eval y) (b:=b') (off:=base' +(N*Az X.P ex+k)) (cs:=vs) (e:=ex) h0 (by rw[q1,hlt]) hone hrf.heap hoffle;unfold Oper.wp;simp only[execOp,hxe,Instr.storeAt,Instr.sureAddr,Sem.run_bind,Sem.run_pure,Result.andThen_ok,hrun,Oper.upon];refine⟨fun e=>(by cases e),?_⟩;have hob:=hi.inv.ok.own b' _ hrf.own;have hvl:(a.eval y).cells.toList.length=cs.length:=by simpa using q1
  have hNl:N<zs.length:=by rw[<-hzl];exact(List.getElem?_eq_some_iff.1 hget).1
  have hgy:∀(j:Nat) (q:C),(Ay ρ cs)[j]? =some q->∃x o t0,(b.cellTy k cs.length)[j]? =some t0/\l[j]? =some (x,o)/\Ajb q/\(l.map fun p=>p.1.get ρ)[j]? =some (x.get ρ)/\(∀u,Au w g q u->Fit g (o.map fun r=>(r,[])) (x.get ρ) u)/\∃c,Lj st r t0 c x o:=fun j q hq=>by
   rw[An,List.getElem?_map,Option.map_eq_some_iff]at hq;obtain⟨c,hc,rfl⟩:=hq;have hjl:j<cs.length:=(List.getElem?_eq_some_iff.1 hc).1;have htj:(b.cellTy k cs.length)[j]? =some ((b.cellTy k cs.length)[j]'(by omega)):=List.getElem?_eq_getElem (by omega);have hlj:l[j]? =some (l[j]'(by omega)):=List.getElem?_eq_getElem (by omega);generalize l[j]'(by omega)=p at hlj;obtain⟨x,o⟩:=p;have ht:=t3 j c _ x o htj hc hlj;exact⟨x,o,_,htj,hlj,ht.plain hi,by rw[List.getElem?_map,hlj];rfl,fun u hu=>ht.fit hi.typ hu,c,ht⟩
  have hencl:(Ay ρ cs).length=cs.length:=by rw[An,Ae]
  have hspl:(C0 (Cb r N 0 b z) k (Ay ρ cs)).length=b.n:=by rw[Gi _ _ _ (by rw[Bf,hencl];exact hkl),Bf]

  have hrw:A4 X.P (w.setRow b' (vs.toList.take (base' +(N*Az X.P ex+k))++(a.eval y).cells.toList++vs.toList.drop (base' +(N*Az X.P ex+k)+(a.eval y).cells.toList.length)).toArray) g (r,[]) (.row false nl ex (els.set N (C0 (Cb r N 0 b z) k (Ay ρ cs)))):=by
   refine Xx hrf hget (by rw[hvl];omega) rfl hrf.own (by simp) (fun i' c' hc' => ?_) (fun i' c' k' q hc' hq=> ?_)
   ·rcases Zy (by rw[hzl];exact hNl) hc' with⟨rfl,rfl⟩ | ⟨_,hc'⟩
    ·rw[hspl];exact hbn
    ·exact hrf.size i' c' hc'
   ·rcases Zy (by rw[hzl];exact hNl) hc' with⟨rfl,rfl⟩ | ⟨hne,hc'⟩
    ·rw[Dc _ _ _ (by rw[Bf,hencl];exact hkl),hencl]at hq;split at hq
     ·rename_i hin
      left
      obtain⟨u,hu,hr1,_⟩:=q2 (k' - k) q hq;obtain⟨_,_,_,_,_,hpl,_⟩:=hgy (k' - k) q hq;exact⟨rfl,hin.1,by omega,u,by simpa using hu,hpl.world hr1⟩
     ·rename_i hin
      right
      have hq2:=hq;rw[Fn,Option.map_eq_some_iff]at hq2;obtain⟨V,hV,rfl⟩:=hq2;exact⟨fun h=>hin ⟨h.2.1,by omega⟩,⟨_,_,hget,hq⟩,(Yz hf hV _ _ _).world (hrf.rep _ _ k' _ hget hq)⟩
    ·right
     obtain⟨y2,hy2,rfl⟩:=hgetE i' c' hc';have hq2:=hq;rw[Fn,Option.map_eq_some_iff]at hq2;obtain⟨V,hV,rfl⟩:=hq2;exact⟨fun h=>hne h.1,⟨_,_,hc',hq⟩,(Yz hf hV _ _ _).world (hrf.rep _ _ k' _ hc' hq)⟩
  have hother:∀b2,b2≠b'→(w.setRow b' (vs.toList.take (base' +(N*Az X.P ex+k))++(a.eval y).cells.toList++vs.toList.drop (base' +(N*Az X.P ex+k)+(a.eval y).cells.toList.length)).toArray).heap[b2]? =w.heap[b2]? :=fun b2 hb2=>setRow_other w b' b2 _ hb2
  have hgok:GOK X g (w.setRow b' (vs.toList.take (base' +(N*Az X.P ex+k))++(a.eval y).cells.toList++vs.toList.drop (base' +(N*Az X.P ex+k)+(a.eval y).cells.toList.length)).toArray):=Xy hi.inv.ok hrf.own _;generalize w.setRow b' (vs.toList.take (base' +(N*Az X.P ex+k))++(a.eval y).cells.toList++vs.toList.drop (base' +(N*Az X.P ex+k)+(a.eval y).cells.toList.length)).toArray=w' at hrw hother hgok;have S:Rw (((st.bind b).bind b).bind (.sl ex b)).nr false r w g w' g:=P6 hrf.own hob.2.2 hother;have hm:Aw X D { (((((st.bind b).bind b).bind (.sl ex b)).kill false r).setR r .dead)with dirty:=st.dirty } (((ρ++[⟨b,z⟩])++[⟨b,zn⟩])++[⟨.sl ex b,A8 zs (i.get ρ).int zn⟩]) a w' g:=
   hi3.mut (Cv (Cv (Cv hk _) _) _) S hgok .dead (fun p row hp=>by rw[Bj]at hp;cases hp) (fun h=>by cases h) (fun b2 l hl hb2=>⟨hb2,hother b2 fun e0=>by subst e0;rw[hrf.own]at hb2;cases hb2;exact hl rfl⟩) st.dirty hi.dirt
  have h5:=Tr (Da l) hm;have e5:({ (((((st.bind b).bind b).bind (.sl ex b)).kill false r).setR r .dead)with dirty:=st.dirty }:St).strike (Da l)=st5:=hst5;rw[e5]at h5;have hd5:st5.dirty=st.dirty:=by rw[<-hst5];exact I0 _ _
  obtain⟨f1,f2,f3,f4,f5,f6,f7⟩:=Mv hfr;obtain⟨dd1,dd2⟩:=Agu hdt;rw[hset]at h5 ⊢
  let src:Nat->Nat->Option Loc:=fun i2 j=>if i2=N/\k<=j/\j<k+cs.length then((l[j - k]?).bind (·.2)).map (fun r2=>(r2,[]))else some (r,[(i2,j)])
  have hsrcIn:∀(j:Nat) (x:At) (o:Option Nat),k<=j->j<k+cs.length->l[j - k]? =some (x,o)->src N j=o.map fun r=>(r,[]):=fun j x o h1 h2 h3=>by
   simp only[src];rw[if_pos ⟨trivial,h1,h2⟩,h3];rfl
  have hsrcOut:∀(i2 j:Nat),¬(i2=N/\k<=j/\j<k+cs.length)->src i2 j=some (r,[(i2,j)]):=fun i2 j h=>by simp only[src];rw[if_neg h]
  have hsrcCase:∀(i2 j:Nat) (l0:Loc),src i2 j=some l0->(i2=N/\k<=j/\j<k+cs.length/\∃x r2,l[j - k]? =some (x,some r2)/\l0=(r2,[]))\/(¬(i2=N/\k<=j/\j<k+cs.length)/\l0=(r,[(i2,j)])):=fun i2 j l0 h=>by
   simp only[src]at h;split at h
   ·rename_i hin
    left
    rw[Option.map_eq_some_iff]at h;obtain⟨r2,h1,rfl⟩:=h;rw[Option.bind_eq_some_iff]at h1;obtain⟨⟨x,o⟩,h2,h3⟩:=h1;simp only at h3;subst h3;exact⟨hin.1,hin.2.1,hin.2.2,x,r2,h2,rfl⟩
   ·rename_i hin;cases h;exact .inr ⟨hin,rfl⟩
  refine Exists.elim (h5.regroup (R0:=r) (e:=ex) (b:=b) (v:= .r ⟨st.nx+2,[]⟩) (nl:=nl) (xs:=zs.set N zn) (els:=els.set N (C0 (Cb r N 0 b z) k (Ay ρ cs))) src hv3g hf f5 f6 (fun r2 hr2=> ?_) (fun i1 j1 i2 j2 l0 h1 h2=> ?_) (fun i2 j h=> ?_) (by rw[hd5];exact dd1) (by rw[hd5];exact dd2) hrw (by simp[hzl]) (fun i2 c y2 hc hy2=> ?_) (fun i2 y2 j V row hy2 hV hVr=> ?_)) (fun g' hg' =>⟨g',hg'.1⟩)
  ·obtain⟨p1,p2⟩:=f7 r2 hr2;refine⟨p1,fun i2 j p h=> ?_⟩;rcases hsrcCase i2 j _ h with⟨_,_,_,x,r3,h1,h2⟩ | ⟨_,h2⟩
   ·cases h2;exact p2 (Kz h1)
   ·cases h2;exact p1 rfl
  ·rcases hsrcCase _ _ _ h1 with⟨a1,a2,a3,x,r3,a4,a5⟩ | ⟨a1,a2⟩<;>rcases hsrcCase _ _ _ h2 with⟨b1,b2,b3,x',r3',b4,b5⟩ | ⟨b1,b2⟩
   ·rw[a5]at b5;cases b5
    have:=Nl f1 a4 b4;rw[a1,b1,show j1=j2 from by omega]
   ·rw[a5]at b2;cases b2
   ·rw[a2]at b5;cases b5
   ·rw[a2]at b2;cases b2;rfl
  ·rcases hsrcCase _ _ _ h with⟨_,_,_,x,r3,h1,h2⟩ | ⟨_,h2⟩
   ·cases h2;have:(Da l).contains r=true:=by simpa using Kz h1
    rw[this]at f2;cases f2
   ·cases h2
  ·rcases Zy (by rw[hzl];exact hNl) hc with⟨rfl,rfl⟩ | ⟨hne,hc⟩
   ·have hy3:y2=zn:=by rw[List.getElem?_set_self hNl]at hy2;cases hy2;rfl
    subst hy3;refine⟨hspl,fun j q V u hq hV hu=> ?_⟩;rw[hleafs,Dc _ _ _ (by rw[Cr,Ae];omega),Ae]at hV;rw[Dc _ _ _ (by rw[Bf,hencl];exact hkl),hencl]at hq;split at hq
    ·rename_i hin;rw[if_pos (by omega)]at hV;obtain⟨x,o,t0,g1,g2,g3,g4,g5,_⟩:=hgy (j - k) q hq;rw[g4]at hV;cases hV;rw[hsrcIn j x o hin.1 hin.2 g2];exact g5 u (g3.world hu)
    ·rename_i hin;rw[if_neg (by omega)]at hV;rw[Fn,hV]at hq;cases hq;rw[hsrcOut _ _ (fun h=>hin h.2),Nat.zero_add]at*;exact L8 hf hV hu
   ·rw[List.getElem?_set_ne (Ne.symm hne)]at hy2;obtain⟨y3,hy3,rfl⟩:=hgetE i2 c hc;rw[hy2]at hy3;cases hy3;refine⟨Bf _ _ _ _ _,fun j q V u hq hV hu=> ?_⟩;rw[Fn,hV,Nat.zero_add]at hq;cases hq;rw[hsrcOut _ _ (fun h=>hne h.1)];exact L8 hf hV hu
  ·have hfl:=U0 hf hV;have hrr:Row.Rel (fun _ _=>False) (fun _ _=>False) row row:=Lm hVr hfl;by_cases hin:i2=N/\k<=j/\j<k+cs.length
   ·obtain⟨rfl,hk1,hk2⟩:=hin;have hy3:y2=zn:=by rw[List.getElem?_set_self hNl]at hy2;cases hy2;rfl
    subst hy3;rw[hleafs,Dc _ _ _ (by rw[Cr,Ae];omega),Ae,if_pos (by omega)]at hV;obtain⟨x,o,t0,g1,g2,g3,g4,g5,c,g6⟩:=hgy (j - k) _ (List.getElem?_eq_getElem (by rw[hencl];omega));rw[g4]at hV;cases hV;rw[hsrcIn j x o hk1 hk2 g2];cases g6 with
    | nil e' b2=>
     simp only[Option.map_none];simp only[At.get,Ty.dflt,Hh,List.map_nil,Ah]at hVr;exact⟨e',hVr.symm⟩
    | own e' b2 r2 x nl2 hr2 hf2 ht2 hne2 hx2=>
     simp only[Option.map_some];refine Ae1 (X6 hi hr2 hf2 ht2 hVr) hrr fun b2 hb2=>hother b2 fun e0=> ?_
     subst e0;rw[hrf.own]at hb2;cases hb2;exact hne2 rfl
    | sc t0 x hs ht=>
     have hty:=At.ty_get hi.typ ht;cases t0 with
     | int kd=>rw[V.int_of hty]at hVr;cases hVr
     | bool=>rw[V.bool_of hty]at hVr;cases hVr
     | _=>cases hs
   ·rw[hsrcOut _ _ hin];have key:∃y3,zs[i2]? =some y3/\(Bv b y3)[j]? =some V:=by
     by_cases hiN:i2=N
     ·subst hiN;have hy3:y2=zn:=by rw[List.getElem?_set_self hNl]at hy2;cases hy2;rfl
      subst hy3;rw[hleafs,Dc _ _ _ (by rw[Cr,Ae];omega),Ae,if_neg (fun h=>hin ⟨(by first | rfl | trivial),by omega,by omega⟩)]at hV;exact⟨z,z2,hV⟩
     ·rw[List.getElem?_set_ne (Ne.symm hiN)]at hy2;exact⟨y2,hy2,hV⟩
    obtain⟨y3,hy3,hV3⟩:=key;refine Ae1 (hrowS i2 j y3 row hy3 ?_ hin) hrr fun b2 hb2=>hother b2 fun e0=> ?_
    ·have:=Fw b 0 y3 j;rw[Nat.zero_add,hV3]at this;rw[this];exact hVr
    ·subst e0;rw[hrf.own]at hb2;cases hb2
theorem Agv {r:Nat}{ex e:TypeId}{i:At}{k:Nat}{b:Ty}{v:At}{nl:Bool}{cs:List SC}(h:L2 X.P st t cs r ex i k e b v nl= .ok s):st.wf=true:=by
 unfold L2 at h;obtain⟨l,hl,h⟩:=Al h;simp only at h;split at h
 ·cases h
 ·rename_i hc;have hc:=Decidable.of_not_not hc;exact hc.2.2.2.2.2.2.2.2.2.2.2.2.2
theorem Asn (h:Xm X.P st t x y= .ok s):I9 X D Γ false st ⟨none,.store t x y,ty,ps,af,gd⟩ s:=by
 unfold Xm at h;obtain⟨vy,hy,h⟩:=Al h;obtain⟨cs,hcs,h⟩:=Al h;obtain⟨vx,hx,h⟩:=Al h;split at h
 ·rename_i q hq;unfold Arl at hq;split at hq
  ·rename_i r ex i k;split at hq
   ·rename_i e b v nl hr;split at hq
    ·cases hq
    ·cases hq;exact fun ρ ρ' a w g=>Qa (Q:=fun _=>True) h (fun ρ a w g hi _=>Bd hi hx) hy hcs (.inl hr) ρ ρ' a w g trivial
   ·rename_i e b v nl i' k' hr;split at hq
    ·rename_i hc;cases hq;obtain⟨rfl,h1,h2⟩:=hc;exact fun ρ ρ' a w g=>Qa (Q:=fun _=>True) h (fun ρ a w g hi _=>Bd hi hx) hy hcs (.inr ⟨k',hr,h1,h2⟩) ρ ρ' a w g trivial
    ·cases hq
   ·cases hq
  ·cases hq
 ·split at h
  ·rename_i r ex i k e b v nl i' hsm;by_cases hc:(i.lt st.ts.length=true/\i'.lt st.ts.length=true/\st.wf=true)
   case neg=>rw[if_pos hc]at h;cases h
   rw[if_neg (fun hh=>hh hc)]at h;obtain⟨vy0,hy0,h⟩:=Al h;obtain⟨cs0,hcs0,h⟩:=Al h;split at h
   ·cases h
   ·rename_i hcl;have hcl:cs0.length=cs.length:=Decidable.of_not_not hcl;obtain⟨s1,hs1,h⟩:=Al h;simp only[Ag]at h;subst h;unfold Arm at hsm;split at hsm
    case h_2=>cases hsm
    split at hsm
    case h_2=>cases hsm
    rename_i hr;split at hsm
    case isFalse=>cases hsm
    rename_i hrange;cases hsm;intro ρ ρ' a w g hi hw hk hev;obtain⟨v1,hv1,hev⟩:=Dn hev;simp only[Ex.den1,Ex.den,Aw8,Option.bind_eq_some_iff,Ah]at hv1;obtain⟨_,hv1,rfl⟩:=hv1;split at hv1
    case isFalse=>cases hv1
    rename_i heq;have hi1:Aw X D (st.bind .unit) (ρ++[V.u]) a w g:=hi.bindOne hw (v:=V.u) rfl;have hn1:i.nat (ρ++[V.u])=i.nat ρ:=Id (by rw[hi.len];exact hc.1);have hn2:i'.nat (ρ++[V.u])=i'.nat ρ:=Id (by rw[hi.len];exact hc.2.1);have hne:i.nat ρ=i'.nat ρ:=by unfold At.nat;rw[heq]
    have hwf1:(st.bind .unit).wf=true:=by
     have:=Agv hs1;exact this
    refine Qa (Q:=fun ρ1=>ρ1=ρ++[V.u]) hs1 (fun ρ1 a1 w1 g1 hi2 hQ=> ?_) hy0 hcs0 (.inr ⟨_,hr,by rw[hcl];exact hrange⟩) _ ρ' a w g rfl hi1 hwf1 (Cv hk _) hev;subst hQ;have hv:=Bd hi2 (o:=x) (sv:= .ad r ex i k) hx;simp only[SV.enc,hn1,hn2,hne]at hv ⊢;exact hv
  ·exact Apu h
end
end Go.Pu
/-
  Own work. A slice taken out of its list for a while; append to it.
-/
namespace Go.Pu
open Go Go.RowKit
set_option linter.unusedVariables false
set_option linter.unusedSectionVars false
section
variable {X:Ctx} {D:Nat->Prop} {Γ:List FE} {st:St} {ρ:Env} {a:Act} {w w' :World} {g g' :G}
variable {d:Nat} {x y:Operand} {t t' ty:TypeId} {ps:String} {af:Array Edge} {gd:Option (Nat×Bool)} {s:Cg} {nr:Bool}
theorem Ts:∀(xs ys:List Ex) {ρ ρ' :Env},Fk Γ (xs++ys) ρ=some ρ'→∃ρ1,Fk Γ xs ρ=some ρ1/\Fk Γ ys ρ1=some ρ'
 | [],ys,ρ,ρ',h=>⟨ρ,rfl,h⟩
 | e::xs,ys,ρ,ρ',h=>by
  obtain⟨v,h1,h2⟩:=Dn h;obtain⟨ρ1,h3,h4⟩:=Ts xs ys h2;exact⟨ρ1,by simp only[Fk,h1,Aa];exact h3,h4⟩
theorem Ap4 {ml:Loc->Loc->Prop}{mr:Rg->Rg->Prop}{bx nl nl' :Bool}{e:TypeId}{b:Ty}{r:Nat}{xs:List b.den}(hf:b.flat=true)(hn:nl' =true->nl=true):
 Row.Rel ml mr (.row bx nl e (List.map (enc none b) xs)) (.row bx nl' e (xs.mapIdx fun i y=>Bk none r i b y)):=by
 refine .row _ _ _ _ _ _ hn (by simp) (fun i cs cs' q1 q2=> ?_) (fun i cs cs' k y y' q1 q2 q3 q4=> ?_)
 ·rw[List.getElem?_map,Option.map_eq_some_iff]at q1;rw[List.getElem?_mapIdx,Option.map_eq_some_iff]at q2;obtain⟨z,hz,rfl⟩:=q1;obtain⟨z',hz',rfl⟩:=q2;simp only[Bk,Bf,A2]
 ·rw[List.getElem?_map,Option.map_eq_some_iff]at q1;rw[List.getElem?_mapIdx,Option.map_eq_some_iff]at q2;obtain⟨z,hz,rfl⟩:=q1;obtain⟨z',hz',rfl⟩:=q2;rw[hz]at hz';cases hz'
  simp only[Bk,D8 r i none 0 b z hf]at q4;exact Hf b (.inl hf) z k y y' q3 q4
theorem Axe {V:V}{e:TypeId}{b:Ty}(h:V.t= .sl e b):∃xs:List b.den,V=⟨.sl e b,xs⟩:=by
 obtain⟨t,x⟩:=V;simp only at h;subst h;exact⟨x,rfl⟩
theorem Qb (hi:Aw X D st ρ a w g){r k:Nat}{i:At}{es:List (Ex×Ty)}{st' :St}(h:st.takeOut r i k= .ok (es,st')){ρ' :Env}(hev:Fk Γ (es.map (·.1)) ρ=some ρ'):
 ∃g',Aw X D st' ρ' a w g'∧g'.hdr (st.nr,[])=g.hdr (r,[(i.nat ρ,k)])/\(∀l,l.1<st.nr->g'.hdr l=g.hdr l)/\(∀b0,g'.own b0=some (st.nr,[])->g.own b0=some (r,[(i.nat ρ,k)]))/\(∃ρ1,ρ' =ρ++ρ1)/\r<st.nr/\st'.nr=st.nr+1/\i.lt st.ts.length=true:=by
 unfold St.takeOut at h;split at h
 case h_2=>cases h
 rename_i e b v nl hr;split at h
 case h_2=>cases h
 rename_i e' b' p hle hpa;simp only at h;by_cases hc:(b.flat1=true/\b'.flat=true/\v.ty st.ts=some (.sl e b)/\i.lt st.ts.length=true/\st.wf=true/\st.rok=true/\Nat.blt r st.nr=true/\(st.dirty.all fun p=>Nat.blt p.1 st.nr)=true/\
  ((((st.bind b).kill false r).setR r (.listH e b v nl i k)).okR (fun r' =>Nat.blt r' st.nr) (fun r' =>Nat.blt r' st.nr && !Nat.beq r' r))=true)
 case neg=>rw[if_pos hc]at h;cases h
 rw[if_neg (fun hh=>hh hc)]at h;simp only[Ag,Prod.mk.injEq]at h;obtain⟨rfl,rfl⟩:=h;obtain⟨hf,hf',hvt,hil,hw,hk,hrlt,hdl,hokr⟩:=hc;have hrlt:r<st.nr:=by simpa using hrlt
 obtain⟨v1,hv1,rfl⟩:=Eo hev;have hvg:=V.list_of (At.ty_get hi.typ hvt);have hrow:=Ee hi hr;have hsub:∀(i2 j:Nat) (y2:b.den) (row:Row),((v.get ρ).as (.sl e b):List b.den)[i2]? =some y2->Bg 0 b y2 j=some row->A4 X.P w g (r,[(i2,j)]) row:=fun i2 j y2 row h1 h2=>
  hi.inv.row (r,[(i2,j)]) row (by simp only[hr,RK.rows,h1];exact h2)
 generalize hxs:(v.get ρ).as (.sl e b)=zs at hrow hsub hvg;simp only[Ex.den1,Ex.den,hvg,Option.bind_eq_some_iff,Ah]at hv1;obtain⟨z,hz,rfl⟩:=hv1;obtain⟨z0,z1,z2⟩:=Th hz;have hNe:i.nat ρ=(i.get ρ).int.toNat:=rfl;rw[<-hNe]at z2;generalize hN:i.nat ρ=N at*;have hnx:st.nx=ρ.length:=by rw[hi.len];rfl
 have hg1:Ref.get (ρ++[⟨b,z⟩]) ⟨st.nx,[]⟩=⟨b,z⟩:=by
  have:(st.ref).get (ρ++[⟨b,z⟩])=⟨b,z⟩:=Ff hi.len;exact this
 have hi1:=hi.bindOne hw (v:=⟨b,z⟩) rfl;have hik:=hi1.killOnly (Cv hk _) r

 obtain⟨V,hV,hVt⟩:∃V,(Bv b z)[k]? =some V/\V.t= .sl e' b' :=by
  have hlt:k<(Bv b z).length:=by rw[Cr,<-Ba];exact(List.getElem?_eq_some_iff.1 hle).1
  refine⟨_,List.getElem?_eq_getElem hlt,?_⟩;have h1:=Sd b z;have h2:((Bv b z).map V.t)[k]? =some (.sl e' b'):=by rw[h1];exact hle
  rw[List.getElem?_map,List.getElem?_eq_getElem hlt]at h2;simpa using h2
 obtain⟨ys,rfl⟩:=Axe hVt;have hpv:(At.r ⟨st.nx,p⟩).get (ρ++[⟨b,z⟩])=⟨.sl e' b',ys⟩:=by
  have h1:=Tq st.nx b [] z hg1;have h2:((Bw [] b).map (fun q=>(At.r ⟨st.nx,q⟩).get (ρ++[⟨b,z⟩])))[k]? =some ⟨.sl e' b',ys⟩:=by rw[h1];exact hV
  rw[List.getElem?_map,hpa]at h2;simpa using h2
 have hvk:A4 X.P w g (r,[(N,k)]) (.row false false e' (List.map (enc none b') ys)):=hsub N k z _ z2 (by
  have:=Fw b 0 z k;rw[Nat.zero_add,hV]at this;rw[this];rfl)
 have hva:(v.get (ρ++[⟨b,z⟩])).as (.sl e b)=zs:=by rw[At.get_app (by rw[hi.len];exact At.ty_lt hvt)];exact hxs
 have hia:i.nat (ρ++[⟨b,z⟩])=N:=by rw[Id (by rw[hi.len];exact hil)];exact hN

 let g' :G:={ S:=g.S,own:=fun b0=>match g.own b0 with | none=>none | some l=>if l=(r,[(N,k)])then some (st.nr,[])else if st.nr<=l.1 then none else some l,hdr:=fun l=>if l.1=st.nr then g.hdr (r,[(N,k)])else g.hdr l }
 have hok:=hi.inv.ok;have ho1:∀b0,g.own b0=some (r,[(N,k)])->g'.own b0=some (st.nr,[]):=fun b0 h=>by simp only[g',h,if_true]
 have ho2:∀b0 l,g.own b0=some l->l≠(r,[(N,k)])->l.1<st.nr->g'.own b0=some l:=fun b0 l h1 h2 h3=>by
  simp only[g',h1];rw[if_neg h2,if_neg (by omega)]
 have ho3:∀b0 l,g'.own b0=some l->(l=(st.nr,[])/\g.own b0=some (r,[(N,k)]))\/(g.own b0=some l/\l≠(r,[(N,k)])/\l.1<st.nr):=fun b0 l h=>by
  simp only[g']at h;split at h
  ·cases h
  ·rename_i l0 h0;split at h
   ·rename_i e0;cases h;subst e0;exact .inl ⟨rfl,h0⟩
   ·rename_i e0;split at h
    ·cases h
    ·cases h;exact .inr ⟨h0,e0,by omega⟩
 have hh1:∀l,l.1<st.nr->g'.hdr l=g.hdr l:=fun l h=>by simp only[g'];rw[if_neg (by omega)]
 have hh2:g'.hdr (st.nr,[])=g.hdr (r,[(N,k)]):=by simp only[g',if_true]
 have ho4:∀b0,g'.own b0=some (st.nr,[])->g.own b0=some (r,[(N,k)]):=fun b0 h=>by
  rcases ho3 b0 _ h with⟨_,h⟩ | ⟨_,_,h⟩
  ·exact h
  ·simp at h
 refine⟨g',?_,hh2,hh1,ho4,⟨_,rfl⟩,hrlt,by simp[St.push,St.setR,St.kill,St.bind,St.nr],hil⟩;unfold St.okR at hokr;simp only[Ai]at hokr;have hlen:((st.bind b).kill false r).roots.length=st.nr:=by simp[St.kill,St.bind,St.nr]
 have hrk:∀r0,r0≠r->(((st.bind b).kill false r).setR r ((st.bind b).rk r)).rk r0=(((st.bind b).kill false r).setR r (.listH e b v nl i k)).rk r0:=fun r0 h=>by rw[Mp h,Mp h]
 have e1:({ (((st.bind b).kill false r).setR r ((st.bind b).rk r))with roots:=((((st.bind b).kill false r).setR r ((st.bind b).rk r)).roots.set r (.listH e b v nl i k))++[.list e' b' (.r ⟨st.nx,p⟩) false none],dirty:=if st.dirty.isEmpty then []else st.dirty++[(st.nr,false)] }:St)
  ={ ((((st.bind b).kill false r).setR r (.listH e b v nl i k)).push (.list e' b' (.r ⟨st.nx,p⟩) false none))with dirty:=if st.dirty.isEmpty then []else st.dirty++[(st.nr,false)] }:=by
  simp only[St.setR,St.push,List.set_set]
 rw[<-e1];refine hik.surg (w' :=w) (g' :=g') (fun r' =>Nat.blt r' st.nr) (fun r' =>Nat.blt r' st.nr && !Nat.beq r' r)
  (roots' :=(((((st.bind b).kill false r).setR r ((st.bind b).rk r)).roots.set r (.listH e b v nl i k))++[.list e' b' (.r ⟨st.nx,p⟩) false none]))
  (dirty' :=if st.dirty.isEmpty then []else st.dirty++[(st.nr,false)]) hokr.1 (fun l hpl=>hh1 l (by simpa using hpl.1)) (fun rg hrg b0 hb0=> ?_)
  ⟨hok.chg,hok.base,hok.S,fun b0 l h=> ?_⟩ (fun r0 p0 row hrw=> ?_) (fun r0 hr0=> ?_) ⟨fun b0 hb0=> ?_,fun r0 b0 q hq=> ?_⟩
 ·refine⟨?_,rfl⟩;cases rg with
  | none=>exact hb0
  | some r1=>
   have hp:=hrg r1 rfl;simp only[Ai,Nat.blt_eq,Bool.not_eq_true']at hp;rcases hb0 with hb0 | ⟨q,hb0⟩
   ·exact .inl hb0
   ·refine .inr ⟨q,ho2 _ _ hb0 (fun e0=> ?_) hp.1⟩;cases e0;simp at hp
 ·rcases ho3 b0 l h with⟨_,h⟩ | ⟨h,_⟩<;>exact hok.own b0 _ h
 ·have hlen2:((((st.bind b).kill false r).setR r ((st.bind b).rk r)).roots.set r (.listH e b v nl i k)).length=st.nr:=by rw[List.length_set];simp only[St.setR,List.length_set];exact hlen
  have keepR:∀(l:Loc) (row:Row),l.1<st.nr->l≠(r,[(N,k)])->A4 X.P w g l row->Row.Ok (fun l=>l.1<st.nr) (Ox fun _=>false) row->A4 X.P w g' l row:=fun l row h1 h2 h3 h4=>
   h3.keep (fun l hl=>hh1 l hl) (fun rg hrg b0 hb0=>by
    cases rg with
    | none=>exact⟨hb0,rfl⟩
    | some r1=>cases hrg r1 rfl) (hh1 l h1) (fun b0 hb0=>⟨ho2 _ _ hb0 h2 h1,rfl⟩) h4
  by_cases e0:r0=r
  ·right
   subst e0;have hget:(((((st.bind b).kill false r0).setR r0 ((st.bind b).rk r0)).roots.set r0 (.listH e b v nl i k))++[RK.list e' b' (.r ⟨st.nx,p⟩) false none]).getD r0 .dead= .listH e b v nl i k:=by
    rw[List.getD,List.getElem?_append_left (by rw[hlen2];exact hrlt),List.getElem?_set_self (by simp only[St.setR,List.length_set];rw[hlen];exact hrlt)];rfl
   rw[hget]at hrw;cases p0 with
   | nil=>
    rw[Abt,hva]at hrw;cases hrw;refine keepR _ _ hrlt (fun e0=>by cases e0) hrow fun i2 c k2 q h1 h2=> ?_
    rw[List.getElem?_mapIdx,Option.map_eq_some_iff]at h1;obtain⟨y2,hy2,rfl⟩:=h1;exact P2 (fun _=>hrlt) b 0 y2 k2 q h2
   | cons q0 p0=>
    obtain⟨rfl,hne,y2,hy2,hs2⟩:=Qv hrw;rw[hva]at hy2;rw[hia]at hne;exact keepR _ _ hrlt (fun e0=>hne (by cases e0;rfl)) (hsub q0.1 q0.2 y2 row hy2 hs2) (Xu _ _ _ _ _ hs2)
  ·by_cases e1:r0<st.nr
   ·left
    have hget:(((((st.bind b).kill false r).setR r ((st.bind b).rk r)).roots.set r (.listH e b v nl i k))++[RK.list e' b' (.r ⟨st.nx,p⟩) false none]).getD r0 .dead=(((st.bind b).kill false r).setR r ((st.bind b).rk r)).rk r0:=by
     rw[List.getD,List.getElem?_append_left (by rw[hlen2];exact e1),List.getElem?_set_ne (Ne.symm e0)];rfl
    refine⟨hget,?_,by simpa using e1,?_,fun b0 p1 hb0=>⟨ho2 _ _ hb0 (fun e2=>by cases e2;exact e0 rfl) e1,rfl⟩⟩
    ·rw[hrk r0 e0];exact Rs hokr.2 rfl r0
    ·rw[T4 e0];simpa using e1
   ·right
    by_cases e2:r0=st.nr
    ·subst e2;have hget:(((((st.bind b).kill false r).setR r ((st.bind b).rk r)).roots.set r (.listH e b v nl i k))++[RK.list e' b' (.r ⟨st.nx,p⟩) false none]).getD st.nr .dead= .list e' b' (.r ⟨st.nx,p⟩) false none:=by
      rw[List.getD,List.getElem?_append_right (by rw[hlen2];exact Nat.le_refl _),hlen2];simp
     rw[hget]at hrw;cases p0 with
     | cons q0 p0=>
      obtain⟨_,rfl,y2,hy2,hs2⟩:=Bl hrw;rw[Mq _ _ _ _ hf']at hs2;cases hs2
     | nil=>
      rw[A6,hpv,V.as_self]at hrw;cases hrw;exact hvk.rel (ml:=fun _ _=>False) (mr:=fun _ _=>False) (fun _ _ h=>h.elim) (fun _ _ h=>h.elim) hh2 (fun b0 hb0=>⟨ho1 _ hb0,rfl⟩) (Ap4 hf' fun h=>h)
    ·have hget:(((((st.bind b).kill false r).setR r ((st.bind b).rk r)).roots.set r (.listH e b v nl i k))++[RK.list e' b' (.r ⟨st.nx,p⟩) false none]).getD r0 .dead= .dead:=by
      rw[List.getD,List.getElem?_eq_none (by rw[Ad,hlen2];simp;omega)];rfl
     rw[hget,Bj]at hrw;cases hrw
 ·refine hh1 _ ?_
  unfold St.rok at hk;simp only[Ai]at hk;simpa using List.all_eq_true.1 hk.2 r0 hr0
 ·obtain⟨p1,q,h1,h2,h3⟩:=hi.dirt.1 b0 hb0;have hne:st.dirty.isEmpty=false:=by
   cases hd:st.dirty with
   | nil=>rw[hd]at h1;cases h1
   | cons _ _=>rfl
  rw[hne];simp only[Bool.false_eq_true,if_false];by_cases e0:(p1.1,q)=(r,[(N,k)])
  ·exact⟨(st.nr,false),[],by simp,ho1 _ (by rw[h2,e0]),by simp⟩
  ·refine⟨p1,q,by simp[h1],ho2 _ _ h2 e0 ?_,h3⟩;simpa using List.all_eq_true.1 hdl p1 h1
 ·exfalso
  split at hq
  ·cases hq
  ·rename_i hne;have:=congrArg List.length hq;simp at this;exact hne (by simpa using this)
theorem Aso (hN:d<X.N){r k:Nat}{i xx:At}(hx:st.val x= .ok (.c (.hn r i k xx)))(hd:nr=true->st.dirty=[(r,true)])
 (h:(do
  let z<-st.takeOut r i k
  let vy<-z.2.val y
  if !(z.2.wf && z.2.rok) then .error "append state" else
  let s<-S7 X.P z.2 d t st.nr vy
  .ok ⟨z.1++s.es,s.st⟩:M Cg)= .ok s):
 I9 X D Γ nr st ⟨some d,.call { callee:= .builtin .append,args:= #[x,y],argTypes:= #[t,t] },ty,ps,af,gd⟩ s:=by
 obtain⟨⟨es,st1⟩,hz,h⟩:=Al h;obtain⟨vy,hvy,h⟩:=Al h;simp only at h hvy;by_cases hc:(st1.wf && st1.rok)=true
 case neg=>rw[if_pos (by rw[Bool.eq_false_iff.2 hc];rfl)]at h;cases h
 rw[if_neg (fun hh=>by rw[hc]at hh;cases hh)]at h;obtain⟨s1,hs1,h⟩:=Al h;simp only[Ag]at h;subst h;simp only[Ai]at hc;intro ρ ρ' a w g hi hw hk hev;rw[List.map_append]at hev;obtain⟨ρ1,hev1,hev2⟩:=Ts _ _ hev;obtain⟨g1,hi1,h1,h2,h3,_⟩:=Qb hi hz hev1;have hxr:=Bd hi hx;have hxv:a.eval x=g1.hdr (st.nr,[]):=by
  have:Au w g (.both (.hd (r,[(i.nat ρ,k)])) (.ro (some r) ((xx.get ρ).els (some r)))) (a.eval x):=by simpa[SV.enc,SC.enc,Bp]using hxr
  rw[Cu (Rq this),h1]
 refine Oper.wp_mono (fun a' w' q=>⟨fun hn=>⟨q.2.1.1,fun b0 hb0 hD=>q.2.1.2 b0 hb0 fun ho=> ?_⟩,q.2.2.imp fun _ h=>h.1⟩) (Uw hN hs1 hi1 hc.1 hc.2 hev2 hxv (.inl hvy));exact hD (hi.dirt.2 r b0 _ (hd hn) (h3 b0 ho) (by simp))
end
end Go.Pu
/-
  Own work. Lists whose elements hold slices of their own: literals of one element, append.
-/
namespace Go.Pu
open Go Go.RowKit
set_option linter.unusedVariables false
set_option linter.unusedSectionVars false
section
variable {X:Ctx} {D:Nat->Prop} {Γ:List FE} {st:St} {ρ:Env} {a:Act} {w w' :World} {g g' :G}
variable {d:Nat} {x y:Operand} {t t' ty:TypeId} {ps:String} {af:Array Edge} {gd:Option (Nat×Bool)} {s:Cg} {nr:Bool}
theorem Wh {e:TypeId}{b:Ty}{o:Operand}(ρo:Operand->Value)(he:Cy X.P t=some e)(hbn:b.n=Az X.P e)(h0:0<b.n)(hsm:b.n<=16777216)(hz:(Kq X.P e).isSome=true)(hsz:(ρo o).cells.size=b.n):
 ∃cs:Array Value,(execOp ρo ⟨some d,.buildSlice t 1 #[(0,o)],ty,ps,af,gd⟩).run X.P w= .ok (.value (.slice (some ⟨w.heap.size,0,none⟩) 1 1)) (w.alloc (.cells cs e))/\cs.size=b.n/\∀j,j<b.n->cs[j]? =(ρo o).cells[j]? :=by
 obtain⟨N,hzN⟩:=Option.isSome_iff_exists.1 hz;obtain⟨i,z,hinfo,hzero,hzs⟩:=J3 hzN;have hu:=Do he
 let cs0:=(Array.range (1*b.n)).map (z.cells[· % z.cells.size]!)
 have hcs0:cs0.size=1*b.n:=by simp[cs0]
 obtain⟨cs,hfill,hcsz,_,hcells⟩:=Aio b.n [ρo o] 0 cs0 (fun v hv=>by simp at hv;subst hv;exact hsz) (by rw[hcs0];simp);refine⟨cs,?_,by rw[hcsz,hcs0];omega,fun j hj=>by have:=hcells 0 (ρo o) rfl j hj;simpa using this⟩;have hlim:¬(1*b.n>2 ^ 24):=by omega
 have hm1:¬1*b.n=0:=by omega
 have hfill' :Instr.fill (fun i=>some (i*b.n,b.n)) ((Array.range (1*b.n)).map (z.cells[· % z.cells.size]!)) [(0,ρo o)]=some cs:=hfill;rw[Nat.one_mul]at hfill';have hzv:(zeroValue e).run X.P w= .ok z w:=by simp[zeroValue,typeInfo,hinfo,hzero]
 have hso:=F3 (P:=X.P) (w:=w) (t:=e) (by omega);rw[<-hbn]at hso;simp only[execOp,Instr.buildSlice,Sem.run_bind,run_underlying hu,Result.andThen_ok,hso,hlim,if_false,hm1,hzv,Sem.run_pure];simp[hfill',newRow]
theorem Ajc (hi:Aw X D st ρ a w g){r0:Nat}{b:Ty}{cs:List SC}{l:List (At×Option Nat)}(ht:st.takeN r0 b.leaves cs= .ok l):Bv b (mkv b ((l.map (·.1)).map (At.get ρ))).1=l.map fun p=>p.1.get ρ:=by
 obtain⟨e1,e2,e3⟩:=O3 _ _ _ ht;rw[List.map_map];refine Wf b _ ?_
 apply List.ext_getElem?;intro j;rw[List.getElem?_map,List.getElem?_map,Option.map_map];cases hj:l[j]? with
 | none=>rw[List.getElem?_eq_none (by rw[<-e2];exact List.getElem?_eq_none_iff.1 hj)];rfl
 | some p=>
  have hjl:j<l.length:=(List.getElem?_eq_some_iff.1 hj).1;have ht:b.leaves[j]? =some (b.leaves[j]'(by omega)):=List.getElem?_eq_getElem (by omega);obtain⟨x,o⟩:=p;have:=e3 j _ _ x o ht (List.getElem?_eq_getElem (by omega)) hj;rw[ht];simp only[Option.map_some,Function.comp,Ah];exact At.ty_get hi.typ this.ty
theorem Lj.lt {r0:Nat}{t:Ty}{c:SC}{x:At}{r:Nat}(h:Lj st r0 t c x (some r)):r<st.nr:=by
 cases h with
 | own e b r x nl hr=>exact V2 (fun e0=>by rw[hr]at e0;cases e0)
theorem Agw (hN:d<X.N){e:TypeId}{b:Ty}{o:Operand}(he:Cy X.P t=some e)(h:S9 X.P st d e b [(0,o)]= .ok s):I9 X D Γ nr st ⟨some d,.buildSlice t 1 #[(0,o)],ty,ps,af,gd⟩ s:=by
 unfold S9 at h;obtain⟨v,hv,h⟩:=Al h;obtain⟨cs,hcs,h⟩:=Al h;obtain⟨l,hl,h⟩:=Al h;simp only at h;generalize hst3:(((st.bind (.sl e b)).push .dead).put d (.c (.h st.nr))).strike (Da l)=st3 at h;by_cases hc:(b.flat1=true/\b.n=Az X.P e/\0<b.n/\b.n<=16777216/\(Kq X.P e).isSome=true/\st3.freed st.nr (Da l)=true/\st3.nr=st.nr+1/\st.dirty.isEmpty=true)
 case neg=>rw[if_pos hc]at h;cases h
 rw[if_neg (fun hh=>hh hc)]at h;simp only[Ag]at h;subst h;obtain⟨hf,hbn,h0,hsm,hz,hfr,hnr3,hdty⟩:=hc;intro ρ ρ' a w g hi hw hk hev;obtain⟨q1,q2⟩:=Iw hi hv hcs;obtain⟨t1,t2,t3⟩:=O3 _ _ _ hl;have hcl:cs.length=b.n:=by rw[t1,Ba]
 obtain⟨v1,hv1,rfl⟩:=Eo hev;simp only[Ex.den1,Ex.den,List.map_cons,List.map_nil,Ah]at hv1;subst hv1;have hleafs:=Ajc hi hl;generalize hy0:(mkv b ((l.map (·.1)).map (At.get ρ))).1=y0 at hleafs;obtain⟨csA,hrun,hcsz,hcells⟩:=Wh (d:=d) (ty:=ty) (ps:=ps) (af:=af) (gd:=gd) (w:=w) (o:=o) a.eval he hbn h0 hsm hz (by rw[q1,hcl]);unfold Oper.wp;rw[hrun];refine⟨fun _=> .of_lat (Iv _ _),?_⟩;have hi2:=hi.bindOne hw (v:=⟨.sl e b,[y0]⟩) rfl;obtain⟨g1,hg1,n1,n2,n3,n4⟩:=hi2.newRootX (Cv hk _) hN .dead (.cells csA e) (.slice (some ⟨w.heap.size,0,none⟩) 1 1) (fun g' _ _ _ _ _ _ p row hr=>by rw[Bj]at hr;cases hr);have hnr2:(st.bind (.sl e b)).nr=st.nr:=rfl;rw[hnr2]at n1 n2 n3;have h3:=Tr (Da l) hg1;have e3:(((st.bind (.sl e b)).push .dead).put d (.c (.h (st.bind (.sl e b)).nr))).strike (Da l)=st3:=hst3;rw[e3]at h3;have hd3:st3.dirty=[]:=by
  rw[<-hst3];have h1:(((((st.bind (.sl e b)).push .dead).put d (.c (.h st.nr))).strike (Da l))).dirty=st.dirty:=I0 _ _;rw[h1];simpa using hdty
 obtain⟨f1,f2,f3,f4,f5,f6,f7⟩:=Mv hfr;have hgy:∀(j:Nat) (q:C),(Ay ρ cs)[j]? =some q->∃x o t0 c,l[j]? =some (x,o)/\q=c.enc ρ/\(l.map fun p=>p.1.get ρ)[j]? =some (x.get ρ)/\Lj st st.nr t0 c x o:=fun j q hq=>by
  rw[An,List.getElem?_map,Option.map_eq_some_iff]at hq;obtain⟨c,hc,rfl⟩:=hq;have hjl:j<cs.length:=(List.getElem?_eq_some_iff.1 hc).1;have htj:b.leaves[j]? =some (b.leaves[j]'(by omega)):=List.getElem?_eq_getElem (by omega);have hlj:l[j]? =some (l[j]'(by omega)):=List.getElem?_eq_getElem (by omega);generalize l[j]'(by omega)=p at hlj;obtain⟨x,o⟩:=p;exact⟨x,o,_,c,hlj,rfl,by rw[List.getElem?_map,hlj];rfl,t3 j c _ x o htj hc hlj⟩
 have hencl:(Ay ρ cs).length=b.n:=by rw[An,Ae];exact hcl
 have hgost:∀{t0:Ty} {c:SC} {x:At} {o:Option Nat} {u:Value} {w2:World},Lj st st.nr t0 c x o->Au w g (c.enc ρ) u->Au w2 g1 (c.enc ρ) u:=fun {t0 c x o u w2} ht hu=>by
  have hpl:=ht.plain hi;cases ht with
  | nil e b=>simp only[SC.enc]at hu ⊢;cases hu;exact .nil
  | own e b r x nl hr hf ht hne hx=>
   simp only[SC.enc]at hu ⊢;exact .hd _ _ ((Cu hu).trans (n3 (r,[]) (V2 (fun e0=>by rw[hr]at e0;cases e0))).symm)
  | sc t x hs ht=>
   rcases hpl with⟨k,z,h⟩ | ⟨b,h⟩ | h | ⟨l,h⟩
   ·rw[h]at hu ⊢;cases hu;exact .int _ _
   ·rw[h]at hu ⊢;cases hu;exact .bool _
   ·rw[h]at hu ⊢;cases hu;exact .nil
   ·simp only[SC.enc,V.c]at h;split at h<;>cases h
 have hrw:A4 X.P (w.alloc (.cells csA e)) g1 (st.nr,[]) (.row false true e [Ay ρ cs]):=by
  refine Ru (cap:=1) (f:=fun _ k=>csA.getD k undef) (by simpa using n1) n2 (Nat.le_refl _) (by simp only[maxLen];omega) (by omega) (by rw[hcsz,hbn];omega) (fun i c hc=> ?_) (fun _ e0=>by cases e0) (fun i c k q hc hq=> ?_)
  ·cases i with
   | zero=>cases hc;rw[hencl,hbn]
   | succ i=>cases hc
  ·cases i with
   | succ i=>cases hc
   | zero=>
    cases hc;obtain⟨x,o,t0,c,g2,rfl,_,g4⟩:=hgy k q hq;obtain⟨u,hu,hr1,_⟩:=q2 k _ hq;have hkl:k<b.n:=by rw[<-hencl];exact(List.getElem?_eq_some_iff.1 hq).1
    have hck:csA[k]? =some u:=by rw[hcells k hkl];exact hu
    have hcd:csA.getD k undef=u:=by rw[Array.getD_eq_getD_getElem?,hck];rfl
    refine⟨by rw[Nat.zero_mul,Nat.zero_add,hcd];exact hck,?_⟩;rw[hcd];exact hgost g4 hr1
 let src:Nat->Nat->Option Loc:=fun i j=>if i=0 then((l[j]?).bind (·.2)).map (fun r2=>(r2,[]))else none
 have hsrcIn:∀(j:Nat) (x:At) (o:Option Nat),l[j]? =some (x,o)->src 0 j=o.map fun r=>(r,[]):=fun j x o h=>by simp only[src,if_true,h];rfl
 have hsrcCase:∀(i j:Nat) (l0:Loc),src i j=some l0->i=0/\∃x r2,l[j]? =some (x,some r2)/\l0=(r2,[]):=fun i j l0 h=>by
  simp only[src]at h;split at h
  ·rename_i h0;rw[Option.map_eq_some_iff]at h;obtain⟨r2,h1,rfl⟩:=h;rw[Option.bind_eq_some_iff]at h1;obtain⟨⟨x,o⟩,h2,h3⟩:=h1;simp only at h3;subst h3;exact⟨h0,x,r2,h2,rfl⟩
  ·cases h
 have hone:∀(i:Nat) (y2:b.den),([y0]:List b.den)[i]? =some y2->i=0/\y2=y0:=fun i y2 h=>by
  cases i with
  | zero=>cases h;exact⟨rfl,rfl⟩
  | succ i=>cases h
 refine Exists.elim (h3.regroup (R0:=st.nr) (e:=e) (b:=b) (v:=st.ref) (nl:=true) (xs:=[y0]) (els:=[Ay ρ cs]) src (by rw[Ff hi.len];exact V.as_self _ _) hf f5 f6 (fun r2 hr2=> ?_) (fun i1 j1 i2 j2 l0 h1 h2=> ?_) (fun i2 j h=> ?_) (.inl hd3) (fun r' e0=>by rw[hd3]at e0;cases e0) hrw rfl (fun i2 c y2 hc hy2=> ?_) (fun i2 y2 j V row hy2 hV hVr=> ?_)) (fun g' hg' =>⟨g',hg'.1⟩)
 ·obtain⟨p1,p2⟩:=f7 r2 hr2;refine⟨p1,fun i2 j p h=> ?_⟩;obtain⟨_,x,r3,h1,h2⟩:=hsrcCase i2 j _ h;cases h2;exact p2 (Kz h1)
 ·obtain⟨a1,x,r3,a4,a5⟩:=hsrcCase _ _ _ h1;obtain⟨b1,x',r3',b4,b5⟩:=hsrcCase _ _ _ h2;rw[a5]at b5;cases b5
  rw[a1,b1,Nl f1 a4 b4]
 ·obtain⟨_,x,r3,h1,h2⟩:=hsrcCase _ _ _ h;cases h2;have:(Da l).contains st.nr=true:=by simpa using Kz h1
  rw[this]at f2;cases f2
 ·obtain⟨rfl,rfl⟩:=hone i2 y2 hy2;cases hc;refine⟨hencl,fun j q V u hq hV hu=> ?_⟩;obtain⟨x,o,t0,c,g2,rfl,g3,g4⟩:=hgy j q hq;rw[hleafs,g3]at hV;cases hV;rw[hsrcIn j x o g2];exact g4.fit hi.typ hu
 ·obtain⟨rfl,rfl⟩:=hone i2 y2 hy2;have hfl:=U0 hf hV;have hrr:Row.Rel (fun _ _=>False) (fun _ _=>False) row row:=Lm hVr hfl;have hjl:j<(Ay ρ cs).length:=by rw[hencl,<-Cr b y2];exact(List.getElem?_eq_some_iff.1 hV).1
  obtain⟨x,o,t0,c,g2,_,g3,g4⟩:=hgy j _ (List.getElem?_eq_getElem hjl);rw[hleafs,g3]at hV;cases hV;rw[hsrcIn j x o g2];cases g4 with
  | nil e' b2=>
   simp only[Option.map_none];simp only[At.get,Ty.dflt,Hh,List.map_nil,Ah]at hVr;exact⟨e',hVr.symm⟩
  | own e' b2 r2 x nl2 hr2 hf2 ht2 hne2 hx2=>
   simp only[Option.map_some];have hlt2:r2<st.nr:=V2 (fun e0=>by rw[hr2]at e0;cases e0);exact(X6 hi hr2 hf2 ht2 hVr).rel (ml:=fun _ _=>False) (mr:=fun _ _=>False) (fun _ _ h=>h.elim) (fun _ _ h=>h.elim) (n3 _ hlt2) (fun b0 hb0=>n4 b0 _ hb0) hrr
  | sc t0 x hs ht=>
   have hty:=At.ty_get hi.typ ht;cases t0 with
   | int kd=>rw[V.int_of hty]at hVr;cases hVr
   | bool=>rw[V.bool_of hty]at hVr;cases hVr
   | _=>cases hs
theorem Al0 {t:Ty}{ts:List Ty}{c:SC}{cs:List SC}{ys:List At}(h:st.takeS (t::ts) (c::cs)= .ok ys):∃y ys',ys=y::ys'∧st.takeS ts cs= .ok ys'∧
 ((∃e b,t= .sl e b/\c= .nil/\y= .nil t)\/(∃e b,t= .sl e b/\c= .s none y/\y.ty st.ts=some t)\/(t.scalar=true/\c= .v y/\y.ty st.ts=some t)):=by
 simp only[St.takeS]at h;have hb0:=Al h
 clear h
 obtain⟨ys',h1,h⟩:=hb0;split at h
 ·rename_i e b;cases h;exact⟨_,ys',rfl,h1,.inl ⟨e,b,rfl,rfl,rfl⟩⟩
 ·rename_i e b x;split at h
  ·rename_i hc;cases h;exact⟨x,ys',rfl,h1,.inr (.inl ⟨e,b,rfl,rfl,hc⟩)⟩
  ·cases h
 ·rename_i x;split at h
  ·rename_i hc;cases h;exact⟨x,ys',rfl,h1,.inr (.inr ⟨hc.1,rfl,hc.2⟩)⟩
  ·cases h
 ·cases h
theorem Ae2 (hi:Aw X D st ρ a w g):∀(ts:List Ty) (cs:List SC) (ys:List At),st.takeS ts cs= .ok ys->cs.length=ts.length/\ys.length=ts.length/\(∀y∈ys,y.lt st.ts.length=true)/\∀(k:Nat) (t:Ty),ts[k]? =some t->∃c y q,cs[k]? =some c/\ys[k]? =some y/\enc none t (mkv t [y.get ρ]).1=[q]/\∀(w2:World) (g2:G) (v:Value),Au w2 g2 (c.enc ρ) v->Au w2 g2 q v
 | [],[],ys,h=>by simp only[St.takeS,Ag]at h;subst h;exact⟨rfl,rfl,fun y hy=>(by cases hy),fun k t h=>(by simp at h)⟩
 | t::ts,c::cs,ys,h=>by
  obtain⟨y,ys',rfl,h1,hc⟩:=Al0 h;obtain⟨e1,e2,e3,e4⟩:=Ae2 hi ts cs ys' h1;refine⟨by simp[e1],by simp[e2],fun y2 hy=> ?_,fun k u hu=> ?_⟩
  ·rcases List.mem_cons.1 hy with rfl | hy
   ·rcases hc with⟨e,b,rfl,rfl,rfl⟩ | ⟨e,b,rfl,rfl,ht⟩ | ⟨_,rfl,ht⟩
    ·rfl
    ·exact At.ty_lt ht
    ·exact At.ty_lt ht
   ·exact e3 y2 hy
  ·cases k with
   | succ k=>simpa using e4 k u (by simpa using hu)
   | zero=>
    simp only[List.getElem?_cons_zero,Ah]at hu;subst hu;rcases hc with⟨e,b,rfl,rfl,rfl⟩ | ⟨e,b,rfl,rfl,ht⟩ | ⟨hs,rfl,ht⟩
    ·refine⟨_,_,.ro none [],rfl,rfl,?_,fun w2 g2 v hv=> ?_⟩
     ·show [C.ro none (List.map (enc none b) (mkv (.sl e b) [⟨.sl e b,([]:List b.den)⟩]).1)]=_;rw[Asi];rfl
     ·simp only[SC.enc]at hv;cases hv;exact .ro0 _ _ _
    ·have hv:=At.ty_get hi.typ ht;refine⟨_,_,.ro none ((y.get ρ).els none),rfl,rfl,?_,fun w2 g2 v hv=>hv⟩;rw[V.list_of hv];simp[mkv,enc,V.els]
    ·have hv:=At.ty_get hi.typ ht;cases t with
     | int kd=>
      refine⟨_,_,.int kd (y.get ρ).int,rfl,rfl,rfl,fun w2 g2 v h2=> ?_⟩;simp only[SC.enc]at h2;rw[V.int_of hv]at h2;exact h2
     | bool=>
      refine⟨_,_,.bool (y.get ρ).bool,rfl,rfl,rfl,fun w2 g2 v h2=> ?_⟩;simp only[SC.enc]at h2;rw[V.bool_of hv]at h2;exact h2
     | _=>cases hs
 | [],_::_,_,h=>by simp[St.takeS]at h
 | _::_,[],_,h=>by simp[St.takeS]at h
theorem Ap5 (hi:Aw X D st ρ a w g){t:Ty}{cs:List SC}{ys:List At}(h:st.takeS t.leaves cs= .ok ys):ys.length=t.n/\cs.length=t.n/\(∀y∈ys,y.lt st.ts.length=true)/\
 ∀(k:Nat) (q:C),(enc none t (mkv t (ys.map (At.get ρ))).1)[k]? =some q->∃c,cs[k]? =some c/\∀(w2:World) (g2:G) (v:Value),Au w2 g2 (c.enc ρ) v->Au w2 g2 q v:=by
 obtain⟨e1,e2,e3,e4⟩:=Ae2 hi _ _ _ h;have hl:=Ba t;refine⟨by omega,by omega,e3,fun k q hq=> ?_⟩;have hk:k<t.n:=by rw[<-A2 none t (mkv t (ys.map (At.get ρ))).1];exact(List.getElem?_eq_some_iff.1 hq).1
 have hu:t.leaves[k]? =some (t.leaves[k]'(by omega)):=List.getElem?_eq_getElem (by omega);obtain⟨c,y,q',h1,h2,h3,h4⟩:=e4 k _ hu;have:=Abn t (ys.map (At.get ρ)) k _ (y.get ρ) q (by rw[Ae];omega) hu (by rw[List.getElem?_map,h2];rfl) hq;rw[h3]at this;cases this;exact⟨c,h1,h4⟩
theorem Ad4 (hN:d<X.N){e:TypeId}{b:Ty}{o:Operand}(he:Cy X.P t=some e)(h:Pv X.P st d e b [(0,o)]= .ok s):I9 X D Γ nr st ⟨some d,.buildSlice t 1 #[(0,o)],ty,ps,af,gd⟩ s:=by
 unfold Pv at h;obtain⟨v,hv,h⟩:=Al h;obtain⟨cs,hcs,h⟩:=Al h;obtain⟨xs,hxs,h⟩:=Al h;by_cases hc:(b.nomap=true/\b.n=Az X.P e/\0<b.n/\b.n<=16777216/\(Kq X.P e).isSome=true)
 case neg=>rw[if_pos hc]at h;cases h
 rw[if_neg (fun hh=>hh hc)]at h;simp only[Ag]at h;subst h;obtain⟨hnm,hbn,h0,hsm,hz⟩:=hc;intro ρ ρ' a w g hi hw hk hev;obtain⟨q1,q2⟩:=Iw hi hv hcs;obtain⟨t1,t2,t3,t4⟩:=Ap5 hi hxs;obtain⟨v1,hv1,rfl⟩:=Eo hev;simp only[Ex.den1,Ex.den,List.map_cons,List.map_nil,Ah]at hv1;subst hv1;generalize hy0:(mkv b (xs.map (At.get ρ))).1=y0 at t4;obtain⟨csA,hrun,hcsz,hcells⟩:=Wh (d:=d) (ty:=ty) (ps:=ps) (af:=af) (gd:=gd) (w:=w) (o:=o) a.eval he hbn h0 hsm hz (by rw[q1,t2]);unfold Oper.wp;rw[hrun];have hi2:=hi.bindOne hw (v:=⟨.sl e b,[y0]⟩) rfl;have hvv:(st.ref.get (ρ++[⟨.sl e b,[y0]⟩])).as (.sl e b)=[y0]:=by rw[Ff hi.len];exact V.as_self _ _
 refine⟨fun _=> .of_lat (Iv _ _),hi2.newRoot (Cv hk _) hN _ _ _ fun g' n1 n2 n3 n4 n5 n6 p row hr=> ?_⟩;cases p with
 | cons q p=>simp only[RK.rows]at hr;cases hr
 | nil=>
  rw[A6,hvv]at hr;simp only[Ah]at hr;subst hr;have e0:(([y0]:List b.den).mapIdx fun i y=>Bk (some none) (st.bind (.sl e b)).nr i b y)=[enc none b y0]:=rfl;rw[e0];refine Ru (cap:=1) (f:=fun _ k=>csA.getD k undef) n2 n4 (Nat.le_refl _) (by simp only[maxLen];omega) (by omega) (by rw[hcsz,hbn];omega) (fun i c hc=> ?_) (fun _ e0=>by cases e0) (fun i c k q hc hq=> ?_)
  ·cases i with
   | zero=>cases hc;rw[A2,hbn]
   | succ i=>cases hc
  ·cases i with
   | succ i=>cases hc
   | zero=>
    cases hc;obtain⟨c,g2,g4⟩:=t4 k q hq;obtain⟨u,hu,hr1,_⟩:=q2 k (c.enc ρ) (by rw[An,List.getElem?_map,g2];rfl);have hkl:k<b.n:=by rw[<-A2 none b y0];exact(List.getElem?_eq_some_iff.1 hq).1
    have hck:csA[k]? =some u:=by rw[hcells k hkl];exact hu
    have hcd:csA.getD k undef=u:=by rw[Array.getD_eq_getD_getElem?,hck];rfl
    refine⟨by rw[Nat.zero_mul,Nat.zero_add,hcd];exact hck,?_⟩;rw[hcd];exact(g4 w g u hr1).rel (ml:=fun _ _=>False) (mr:=fun a b=>a=none/\b=none) (fun _ _ h=>h.elim) (fun a b ⟨h1,h2⟩ k hk=>by subst h1 h2;exact n6 none (fun r h=>by cases h) k hk) (Hf b (.inr ⟨rfl,rfl⟩) y0 k q q hq hq)
theorem Abu {m:Nat}{B9:Array (Nat×Operand)}(hN:d<X.N)(h:Ld X.P st d t m B9.toList= .ok s):I9 X D Γ nr st ⟨some d,.buildSlice t m B9,ty,ps,af,gd⟩ s:=by
 unfold Ld at h;split at h
 ·rename_i e he;split at h
  ·rename_i b hb;split at h
   ·rename_i hc;obtain⟨rfl,_⟩:=hc;split at h
    ·have:∃o,B9.toList=[(0,o)]:=by
      unfold Pv at h;split at h
      ·exact⟨_,by assumption⟩
      ·cases h
     obtain⟨o,ho⟩:=this;have hp:B9= #[(0,o)]:=by
      have:B9=B9.toList.toArray:=by simp
      rw[this,ho]
     subst hp;exact Ad4 hN he h
    have:∃o,B9.toList=[(0,o)]:=by
     unfold S9 at h;split at h
     ·exact⟨_,by assumption⟩
     ·cases h
    obtain⟨o,ho⟩:=this;have hp:B9= #[(0,o)]:=by
     have:B9=B9.toList.toArray:=by simp
     rw[this,ho]
    subst hp;exact Agw hN he h
   ·exact Ad1 hN h
  ·cases h
 ·cases h
theorem Agx (hi:Aw X D st ρ a w g){r:Nat}{p:List (Nat×Nat)}{nl:Bool}{e:TypeId}{els:List (List C)}(h:A4 X.P w g (r,p) (.row false nl e els)):(g.hdr (r,p)).oneCell' =true:=by
 cases h with
 | nil _ _ hd=>rw[hd];rfl
 | zero _ A hd=>rw[hd];rfl
 | full _ _ _ _ b base n cap cs f hf=>rw[hf.hd];rfl
theorem Abv (hN:d<X.N){r r3:Nat}(h:Vs X.P st d t r r3= .ok s)(hi:Aw X D st ρ a w g)(hw:st.wf=true)(hk:st.rok=true){ρ' :Env}(hev:Fk Γ (s.es.map (·.1)) ρ=some ρ')(hx:a.eval x=g.hdr (r,[]))(hy:a.eval y=g.hdr (r3,[])):
 (⟨some d, .call { callee := .builtin .append, args := #[x, y], argTypes := #[t, t] }, ty, ps, af, gd⟩ : Oper).wp X.P a w (fun a' w' => (g.hdr (r, []) = .slice none 0 0 → F9 D w w') ∧ ∃ g', Aw X D s.st ρ' a' w' g') (fun _ _ _ => False) := by
 unfold Vs at h;split at h
 case h_2=>cases h
 rename_i e e1 b v nl e3 b3 v3 nl3 he hr hr3;simp only at h;generalize hst4:((((st.bind (.sl e b)).kill true r).setR r .dead).strike [r3]).put d (.c (.h r))=st4 at h;by_cases hc:(e1=e/\e3=e/\b3=b/\b.flat1=true/\v.ty st.ts=some (.sl e b)/\v3.ty st.ts=some (.sl e b)/\(!st.fix.contains r)=true/\(!st.fix.contains r3)=true/\b.n=Az X.P e/\0<b.n/\0<De X.P e/\Kq X.P e=some b.n/\st4.freed r [r3]=true/\st4.nr=st.nr/\st.dirty.isEmpty=true)
 case neg=>rw[if_pos hc]at h;cases h
 rw[if_neg (fun hh=>hh hc)]at h;simp only[Ag]at h;subst h;obtain⟨rfl,rfl,rfl,hf,hvt,hvt3,hfix,hfix3,hbn,h0,hby0,hz,hfr,hnr4,hdty⟩:=hc;have hfix:st.fix.contains r=false:=by simpa using hfix
 have hdty:st.dirty=[]:=by simpa using hdty
 obtain⟨f1,f2,f3,f4,f5,f6,f7⟩:=Mv hfr;have hne:r3≠r:=fun e0=>by subst e0;simp at f2
 obtain⟨ti,z,hinfo,hzero,hzs⟩:=J3 hz;have hu:=Do he;have hrow:=Ee hi hr;have hrow3:=Ee hi hr3;have hvg:=V.list_of (At.ty_get hi.typ hvt);have hvg3:=V.list_of (At.ty_get hi.typ hvt3);have hsub:∀(i j:Nat) (y2:b3.den) (row:Row),((v.get ρ).as (.sl e3 b3):List b3.den)[i]? =some y2->Bg 0 b3 y2 j=some row->A4 X.P w g (r,[(i,j)]) row:=fun i j y2 row h1 h2=>
  hi.inv.row (r,[(i,j)]) row (by simp only[hr,RK.rows,h1];exact h2)
 have hsub3:∀(i j:Nat) (y2:b3.den) (row:Row),((v3.get ρ).as (.sl e3 b3):List b3.den)[i]? =some y2->Bg 0 b3 y2 j=some row->A4 X.P w g (r3,[(i,j)]) row:=fun i j y2 row h1 h2=>
  hi.inv.row (r3,[(i,j)]) row (by simp only[hr3,RK.rows,h1];exact h2)
 generalize hxs:(v.get ρ).as (.sl e3 b3)=xs at hrow hsub hvg;generalize hys:(v3.get ρ).as (.sl e3 b3)=ys at hrow3 hsub3 hvg3;obtain⟨v',hv',rfl⟩:=Eo hev;simp only[Ex.den1,Ex.den,hvg,hvg3,V.as_self,Option.bind_eq_some_iff,Ah]at hv';obtain⟨zs,hzs',rfl⟩:=hv';obtain⟨fit1,fit2,rfl⟩:=gapp_ok hzs';have hE:∀{r:Nat} {xs:List b3.den} (i:Nat) (c:List C),(xs.mapIdx fun i y=>Bk none r i b3 y)[i]? =some c->∃y2,xs[i]? =some y2/\c=Cb r i 0 b3 y2:=fun {r xs} i c hc=>by
  rw[List.getElem?_mapIdx,Option.map_eq_some_iff]at hc;obtain⟨y2,hy2,rfl⟩:=hc;exact⟨y2,hy2,rfl⟩
 have hsE:∀{r:Nat} {xs:List b3.den} (i:Nat) (c:List C),(xs.mapIdx fun i y=>Bk none r i b3 y)[i]? =some c->c.length=Az X.P e3:=fun {r xs} i c hc=>by
  obtain⟨y2,_,rfl⟩:=hE i c hc;rw[Bf,hbn]
 have hl1:(xs.mapIdx fun i y=>Bk none r i b3 y).length=xs.length:=by simp
 have hl3:(ys.mapIdx fun i y=>Bk none r3 i b3 y).length=ys.length:=by simp
 obtain⟨A,cap2,fn,hyv,hcells,hreps⟩:=Anx (Ut hrow3) hsE;have hone:∀(i:Nat) (c:List C) (k:Nat) (q:C),(ys.mapIdx fun i y=>Bk none r3 i b3 y)[i]? =some c->c[k]? =some q->(fn i k).oneCell' =true:=fun i c k q h1 h2=>by
  obtain⟨y2,hy2,rfl⟩:=hE i c h1;have hq:=hreps i _ k q h1 h2;rw[Fn,Nat.zero_add,Option.map_eq_some_iff]at h2;obtain⟨V,hV,rfl⟩:=h2;rcases G1 b3 y2 k V hf hV with⟨kd,z,rfl⟩ | ⟨bv,rfl⟩ | ⟨e',a',zs',rfl,_⟩
  ·generalize fn i k=u at hq;cases hq;rfl
  ·generalize fn i k=u at hq;cases hq;rfl
  ·simp only[Qy]at hq;rw[Cu hq];have:=Fw b3 0 y2 k;rw[Nat.zero_add,hV]at this;exact Agx hi (hsub3 i k y2 _ hy2 this)
 obtain⟨v',w',g1,hrun,hA,hrw⟩:=Se (t:=t) (ty:=ty) (A:=A) (cap2:=cap2) (fn:=fn) hi.inv.ok hrow hu hinfo hzero (by rw[hzs,hbn]) (by omega) hsE hsE (by simp only[hl1,hl3,Aao,decide_eq_true_eq];exact⟨fit1,fit2⟩) hby0 hcells (fun i c k q h1 h2=>⟨hreps i c k q h1 h2,hone i c k q h1 h2⟩)
  (fun i c k q h1 h2=>by obtain⟨y2,_,rfl⟩:=hE i c h1;exact P2 (fun k e0=>by cases e0) b3 0 y2 k q h2) (fun i c k q h1 h2=>by obtain⟨y2,_,rfl⟩:=hE i c h1;exact P2 (fun k e0=>by cases e0) b3 0 y2 k q h2)
 have hexec:(execOp a.eval ⟨some d,.call { callee:= .builtin .append,args:= #[x,y],argTypes:= #[t,t] },ty,ps,af,gd⟩).run X.P w= .ok (.value v') w' :=by
  have hyv2:a.eval y= .slice A (ys.mapIdx fun i y=>Bk none r3 i b3 y).length cap2:=hy.trans hyv;simp only[execOp,resolve,invoke,builtin,Sem.run_bind,Sem.run_pure,Result.andThen_ok,List.map_toArray,List.map_cons,List.map_nil,hx,hyv2,hrun]
 unfold Oper.wp;rw[hexec];refine⟨fun hnil=>⟨hA.size,fun b0 hb0 _=>hA.new hnil b0 hb0⟩,?_⟩;have hi2:=hi.bindOne hw (v:=⟨.sl e3 b3,xs++ys⟩) rfl;have S:Rw (st.bind (.sl e3 b3)).nr true r w g w' g1:=⟨fun l h1 h2 h3=>hA.hdr l (fun e0=>by subst e0;rcases h1 with h1 | h1;cases h1;exact h1 rfl),fun rg hne2 _ b0 hb0=>by
  cases rg with
  | none=>
   have hS:g.S b0:=hb0;exact⟨by show g1.S b0;rw[hA.S];exact hS,hA.keep b0 (hi.inv.ok.S b0 hS).1 fun ho=>(hi.inv.ok.own b0 _ ho).2.2 hS⟩
  | some r' =>
   rcases hb0 with hS | ⟨q,ho⟩
   ·exact⟨.inl (by rw[hA.S];exact hS),hA.keep b0 (hi.inv.ok.S b0 hS).1 fun ho=>(hi.inv.ok.own b0 _ ho).2.2 hS⟩
   ·exact⟨.inr ⟨q,hA.own _ _ ho⟩,hA.keep b0 (hi.inv.ok.own b0 _ ho).2.1 fun ho2=>by rw[ho]at ho2;cases ho2;exact hne2 rfl⟩⟩
 have hm:Aw X D { (((st.bind (.sl e3 b3)).kill true r).setR r .dead)with dirty:=st.dirty } (ρ++[⟨.sl e3 b3,xs++ys⟩]) a w' g1:=
  hi2.mut (Cv hk _) S hA.ok .dead (fun p row hp=>by rw[Bj]at hp;cases hp) (fun _=>hfix) (fun b0 l hl ho=>⟨hA.own _ _ ho,hA.keep b0 (hi.inv.ok.own b0 _ ho).2.1 fun ho2=>by rw[ho]at ho2;cases ho2;exact hl rfl⟩) st.dirty
   ⟨fun b0 hb0=>absurd hb0 (noD hi hdty b0),fun r0 b0 q hq=>by rw[hdty]at hq;cases hq⟩
 have h3:=Aw.put (Tr [r3] hm) hN (sv:= .c (.h r)) (v:=v') (.hd _ _ hA.top.symm);have e4:(({ (((st.bind (.sl e3 b3)).kill true r).setR r .dead)with dirty:=st.dirty }:St).strike [r3]).put d (.c (.h r))=st4:=hst4;rw[e4]at h3;have hd4:st4.dirty=[]:=by
  rw[<-hst4];have h1:(((((st.bind (.sl e3 b3)).kill true r).setR r .dead).strike [r3]).put d (.c (.h r))).dirty=st.dirty:=I0 _ _;rw[h1];exact hdty
 have hval:((At.r ⟨st.nx,[]⟩).get (ρ++[⟨.sl e3 b3,xs++ys⟩])).as (.sl e3 b3)=xs++ys:=by
  have h2:(At.r ⟨st.nx,[]⟩).get (ρ++[⟨.sl e3 b3,xs++ys⟩])=⟨.sl e3 b3,xs++ys⟩:=Ff hi.len;rw[h2];exact V.as_self _ _
 let src:Nat->Nat->Option Loc:=fun i j=>if i<xs.length then some (r,[(i,j)])else some (r3,[(i - xs.length,j)])
 have sOk:∀i j l0,src i j=some l0->(i<xs.length/\l0=(r,[(i,j)]))\/(xs.length<=i/\l0=(r3,[(i - xs.length,j)])):=fun i j l0 h=>by
  simp only[src]at h;split at h
  ·rename_i hlt;cases h;exact .inl ⟨hlt,rfl⟩
  ·rename_i hge;cases h;exact .inr ⟨by omega,rfl⟩
 refine Exists.elim (h3.regroup (R0:=r) (e:=e3) (b:=b3) (v:= .r ⟨st.nx,[]⟩) (nl:=nl) (xs:=xs++ys) (els:=_) src hval hf f5 f6 (fun r2 hr2=> ?_) (fun i1 j1 i2 j2 l0 h1 h2=> ?_) (fun i2 j h=> ?_) (.inl hd4) (fun r' e0=>by rw[hd4]at e0;cases e0) hrw (by simp) (fun i c y2 hc hy2=> ?_) (fun i y2 j V row hy2 hV hVr=> ?_)) (fun g' hg' =>⟨g',hg'.1⟩)
 ·obtain⟨p1,p2⟩:=f7 r2 hr2;refine⟨p1,fun i2 j p h=> ?_⟩;rcases sOk _ _ _ h with⟨_,h⟩ | ⟨_,h⟩<;>cases h
  ·exact p1 rfl
  ·exact p2 (by simp)
 ·rcases sOk _ _ _ h1 with⟨a1,a2⟩ | ⟨a1,a2⟩<;>rcases sOk _ _ _ h2 with⟨b1,b2⟩ | ⟨b1,b2⟩<;>rw[a2]at b2
  ·cases b2;rfl
  ·simp only[Prod.mk.injEq]at b2;exact absurd b2.1 (Ne.symm hne)
  ·simp only[Prod.mk.injEq]at b2;exact absurd b2.1 hne
  ·simp only[Prod.mk.injEq,List.cons.injEq,true_and,and_true]at b2;rw[b2.2,show i1=i2 from by omega]
 ·rcases sOk _ _ _ h with⟨_,h⟩ | ⟨_,h⟩<;>cases h
 ·rw[List.getElem?_append]at hc hy2;rw[hl1]at hc;split at hc
  ·rename_i hlt;rw[if_pos hlt]at hy2;obtain⟨y3,hy3,rfl⟩:=hE i c hc;rw[hy2]at hy3;cases hy3
   refine⟨Bf _ _ _ _ _,fun j q V u hq hV hu=> ?_⟩;rw[Fn,hV,Nat.zero_add]at hq;cases hq;have:src i j=some (r,[(i,j)]):=by simp only[src];rw[if_pos hlt]
   rw[this];exact L8 hf hV hu
  ·rename_i hlt;rw[if_neg hlt]at hy2;obtain⟨y3,hy3,rfl⟩:=hE _ c hc;rw[hy2]at hy3;cases hy3
   refine⟨Bf _ _ _ _ _,fun j q V u hq hV hu=> ?_⟩;rw[Fn,hV,Nat.zero_add]at hq;cases hq;have:src i j=some (r3,[(i - xs.length,j)]):=by simp only[src];rw[if_neg hlt]
   rw[this];exact L8 hf hV hu
 ·have hrr:Row.Rel (fun _ _=>False) (fun _ _=>False) row row:=Lm hVr (U0 hf hV);have hsr:Bg 0 b3 y2 j=some row:=by
   have:=Fw b3 0 y2 j;rw[Nat.zero_add,hV]at this;rw[this];exact hVr
  have go:∀l0:Loc,l0≠(r,[])->A4 X.P w g l0 row->A4 X.P w' g1 l0 row:=fun l0 hl0 h=>h.rel (ml:=fun _ _=>False) (mr:=fun _ _=>False) (fun _ _ h=>h.elim) (fun _ _ h=>h.elim) (hA.hdr l0 hl0) (fun b0 hb0=>⟨hA.own _ _ hb0,hA.keep b0 (hi.inv.ok.own b0 _ hb0).2.1 fun ho2=>by rw[hb0]at ho2;cases ho2;exact hl0 rfl⟩) hrr
  rw[List.getElem?_append]at hy2;split at hy2
  ·rename_i hlt;have:src i j=some (r,[(i,j)]):=by simp only[src];rw[if_pos hlt]
   rw[this];exact go _ (fun e0=>by cases e0) (hsub i j y2 row hy2 hsr)
  ·rename_i hlt;have:src i j=some (r3,[(i - xs.length,j)]):=by simp only[src];rw[if_neg hlt]
   rw[this];exact go _ (fun e0=>by cases e0) (hsub3 _ j y2 row hy2 hsr)
theorem Avj {w:World}{g:G}{rg:Rg}:∀(t:Ty) (x:t.den) (k:Nat) (q:C) (u:Value),t.nomap=true->(enc rg t x)[k]? =some q->Au w g q u->u.oneCell' =true:=by
 intro t
 induction t with
 | int kd=>intro x k q u _ h hq;cases k with
  | zero=>simp only[enc]at h;cases h;cases hq;rfl
  | succ k=>simp[enc]at h
 | bool=>intro x k q u _ h hq;cases k with
  | zero=>simp only[enc]at h;cases h;cases hq;rfl
  | succ k=>simp[enc]at h
 | unit=>intro x k q u _ h;simp[enc]at h
 | mp=>intro x k q u hm;simp[Ty.nomap]at hm
 | pr a b iha ihb=>
  intro x k q u hm h hq;simp only[Ty.nomap,Ai]at hm;simp only[enc,List.getElem?_append]at h;split at h
  ·exact iha _ _ _ _ hm.1 h hq
  ·exact ihb _ _ _ _ hm.2 h hq
 | sl e a iha=>
  intro x k q u _ h hq;cases k with
  | zero=>simp only[enc]at h;cases h;exact Aba hq
  | succ k=>simp[enc]at h
theorem Abw {α β:Type}(f:α->β)(xs:List α):(xs.mapIdx fun _ y=>f y)=xs.map f:=List.ext_getElem? fun i=>by rw[List.getElem?_mapIdx,List.getElem?_map]
theorem Sf (hN:d<X.N){r:Nat}{rg:Rg}{v2:At}(h:Rj X.P st d t r rg v2= .ok s)(hi:Aw X D st ρ a w g)(hw:st.wf=true)(hk:st.rok=true){ρ' :Env}(hev:Fk Γ (s.es.map (·.1)) ρ=some ρ')(hx:a.eval x=g.hdr (r,[]))(hy:Au w g (.ro rg ((v2.get ρ).els rg)) (a.eval y)):
 (⟨some d, .call { callee := .builtin .append, args := #[x, y], argTypes := #[t, t] }, ty, ps, af, gd⟩ : Oper).wp X.P a w (fun a' w' => (g.hdr (r, []) = .slice none 0 0 → F9 D w w') ∧ ∃ g', Aw X D s.st ρ' a' w' g') (fun _ _ _ => False) := by
 unfold Rj at h;split at h
 case h_2=>cases h
 rename_i e e1 b v nl inner he hr;by_cases hc:(Arn rg v (.sl e b) inner=true/\rg≠some r/\e1=e/\b.nomap=true/\(!st.fix.contains r)=true/\v.ty st.ts=some (.sl e b)/\v2.ty st.ts=some (.sl e b)/\b.n=Az X.P e/\0<b.n/\0<De X.P e/\Kq X.P e=some b.n/\st.dirty.isEmpty=true)
 case neg=>rw[if_pos hc]at h;cases h
 rw[if_neg (fun hh=>hh hc)]at h;simp only[Ag]at h;subst h;obtain⟨hinn,hne,rfl,hf,hfix,hvt,hvt2,hbn,h0,hby0,hz,hdty⟩:=hc;have hfix:st.fix.contains r=false:=by simpa using hfix
 have hdty:st.dirty=[]:=by simpa using hdty
 obtain⟨ti,z,hinfo,hzero,hzs⟩:=J3 hz;have hu:=Do he;have hrow:=Ee hi hr;have hvg:=V.list_of (At.ty_get hi.typ hvt);have hvg2:=V.list_of (At.ty_get hi.typ hvt2);have hrow' :A4 X.P w g (r,[]) (.row false nl e1 (((v.get ρ).as (.sl e1 b)).map (enc rg b))):=by
  unfold Arn at hinn;split at hinn
  ·rename_i rg2;have:=of_decide_eq_true hinn;subst this;have e0:(((v.get ρ).as (.sl e1 b):List b.den).mapIdx fun i y=>Bk (some rg2) r i b y)=((v.get ρ).as (.sl e1 b)).map (enc rg2 b):=by
    exact Abw _ _
   rw[e0]at hrow;exact hrow
  ·have hv0:=of_decide_eq_true hinn;subst hv0;have e0:(At.get ρ (.nil (.sl e1 b))).as (.sl e1 b)=([]:List b.den):=by { show V.as (.sl e1 b) ⟨.sl e1 b,[]⟩=[];exact V.as_self _ _ }
   rw[e0]at hrow ⊢;exact hrow
 have hels:(v2.get ρ).els rg=List.map (enc rg b) ((v2.get ρ).as (.sl e1 b)):=by
  rw[hvg2];simp only[V.els,V.as_self]
 rw[hels]at hy;generalize hxs:(v.get ρ).as (.sl e1 b)=xs at hrow' hvg;generalize hys:(v2.get ρ).as (.sl e1 b)=ys at hy hvg2;obtain⟨v',hv',rfl⟩:=Eo hev;simp only[Ex.den1,Ex.den,hvg,hvg2,V.as_self,Option.bind_eq_some_iff,Ah]at hv';obtain⟨zs,hzs',rfl⟩:=hv';obtain⟨fit1,fit2,rfl⟩:=gapp_ok hzs';have hE:∀{xs:List b.den} (i:Nat) (c:List C),(xs.map (enc rg b))[i]? =some c->∃y2,c=enc rg b y2:=fun {xs} i c hc=>by
  rw[List.getElem?_map,Option.map_eq_some_iff]at hc;obtain⟨y2,_,rfl⟩:=hc;exact⟨y2,rfl⟩
 have hsE:∀{xs:List b.den} (i:Nat) (c:List C),(xs.map (enc rg b))[i]? =some c->c.length=Az X.P e1:=fun {xs} i c hc=>by
  obtain⟨y2,rfl⟩:=hE i c hc;rw[A2,hbn]
 have hok:∀{xs:List b.den} (i:Nat) (c:List C) (k:Nat) (q:C),(xs.map (enc rg b))[i]? =some c->c[k]? =some q->C.Ok (fun l=>l≠(r,[])) (fun rg=>rg≠some r) q:=fun {xs} i c k q h1 h2=>by
  obtain⟨y2,rfl⟩:=hE i c h1;exact Uv (prr:=fun rg=>rg≠some r) hne b y2 k q h2
 obtain⟨A,cap2,fn,hyv,hcells,hreps⟩:=Anx hy hsE;obtain⟨v',w',g1,hrun,hA,hrw⟩:=Se (t:=t) (ty:=ty) (A:=A) (cap2:=cap2) (fn:=fn) hi.inv.ok hrow' hu hinfo hzero (by rw[hzs,hbn]) (by omega) hsE hsE (by simp only[Ae,Aao,decide_eq_true_eq];exact⟨fit1,fit2⟩) hby0 hcells (fun i c k q h1 h2=>⟨hreps i c k q h1 h2,by
  obtain⟨y2,rfl⟩:=hE i c h1;exact Avj b y2 k q _ hf h2 (hreps i _ k q h1 h2)⟩) hok hok
 have hexec:(execOp a.eval ⟨some d,.call { callee:= .builtin .append,args:= #[x,y],argTypes:= #[t,t] },ty,ps,af,gd⟩).run X.P w= .ok (.value v') w' :=by
  simp only[execOp,resolve,invoke,builtin,Sem.run_bind,Sem.run_pure,Result.andThen_ok,List.map_toArray,List.map_cons,List.map_nil,hx,hyv,hrun]
 unfold Oper.wp;rw[hexec];refine⟨fun hnil=>⟨hA.size,fun b0 hb0 _=>hA.new hnil b0 hb0⟩,?_⟩;have hi2:=hi.bindOne hw (v:=⟨.sl e1 b,xs++ys⟩) rfl;have S:Rw (st.bind (.sl e1 b)).nr true r w g w' g1:=⟨fun l h1 h2 h3=>hA.hdr l (fun e0=>by subst e0;rcases h1 with h1 | h1;cases h1;exact h1 rfl),fun rg hne2 _ b0 hb0=>by
  cases rg with
  | none=>
   have hS:g.S b0:=hb0;exact⟨by show g1.S b0;rw[hA.S];exact hS,hA.keep b0 (hi.inv.ok.S b0 hS).1 fun ho=>(hi.inv.ok.own b0 _ ho).2.2 hS⟩
  | some r' =>
   rcases hb0 with hS | ⟨q,ho⟩
   ·exact⟨.inl (by rw[hA.S];exact hS),hA.keep b0 (hi.inv.ok.S b0 hS).1 fun ho=>(hi.inv.ok.own b0 _ ho).2.2 hS⟩
   ·exact⟨.inr ⟨q,hA.own _ _ ho⟩,hA.keep b0 (hi.inv.ok.own b0 _ ho).2.1 fun ho2=>by rw[ho]at ho2;cases ho2;exact hne2 rfl⟩⟩
 have hval:((At.r ⟨st.nx,[]⟩).get (ρ++[⟨.sl e1 b,xs++ys⟩])).as (.sl e1 b)=xs++ys:=by
  have h2:(At.r ⟨st.nx,[]⟩).get (ρ++[⟨.sl e1 b,xs++ys⟩])=⟨.sl e1 b,xs++ys⟩:=Ff hi.len;rw[h2];exact V.as_self _ _
 have hm:Aw X D { (((st.bind (.sl e1 b)).kill true r).setR r (.list e1 b (.r ⟨st.nx,[]⟩) nl (some rg)))with dirty:=st.dirty } (ρ++[⟨.sl e1 b,xs++ys⟩]) a w' g1:=
  hi2.mut (Cv hk _) S hA.ok (.list e1 b (.r ⟨st.nx,[]⟩) nl (some rg)) (fun p row hp=>by
   cases p with
   | nil=>
    rw[A6,hval]at hp;have e0:((xs++ys:List b.den).mapIdx fun i y=>Bk (some rg) r i b y)=xs.map (enc rg b)++ys.map (enc rg b):=by
     rw[<-List.map_append];exact Abw _ _
    rw[e0]at hp;cases hp;exact hrw
   | cons q p=>
    obtain⟨e0,_⟩:=Bl hp;cases e0) (fun _=>hfix) (fun b0 l hl ho=>⟨hA.own _ _ ho,hA.keep b0 (hi.inv.ok.own b0 _ ho).2.1 fun ho2=>by rw[ho]at ho2;cases ho2;exact hl rfl⟩) st.dirty
   ⟨fun b0 hb0=>absurd hb0 (noD hi hdty b0),fun r0 b0 q hq=>by rw[hdty]at hq;cases hq⟩
 exact⟨g1,Aw.put hm hN (sv:= .c (.h r)) (v:=v') (.hd _ _ hA.top.symm)⟩
theorem Abx (hN:d<X.N){sx sy:SV}(hsx:st.val x= .ok sx)(hsy:st.val y= .ok sy)(h:Rk X.P st d t sx sy= .ok s)(hnr:nr=true->sx.isNil=true):
 I9 X D Γ nr st ⟨some d,.call { callee:= .builtin .append,args:= #[x,y],argTypes:= #[t,t] },ty,ps,af,gd⟩ s:=by
 intro ρ ρ' a w g hi hw hk hev;have hxr:=Bd hi hsx;have hyr:=Bd hi hsy;unfold Rk at h;split at h
 ·rename_i r3;have hy:a.eval y=g.hdr (r3,[]):=by
   have:Au w g (.hd (r3,[])) (a.eval y):=by simpa[SV.enc,SC.enc,Bp]using hyr
   exact Cu this
  split at h
  ·rename_i e he;split at h
   ·rename_i b hb;by_cases hc:((adoptNew st e b).wf && (adoptNew st e b).rok)=true
    ·rw[if_neg (fun hh=>by rw[hc]at hh;cases hh)]at h;simp only[Ai]at hc;obtain⟨g',hi',q1,q2,_⟩:=hi.adoptNew (e:=e) (b:=b) (nl:=true) hk;have hx:a.eval x= .slice none 0 0:=by
      have hxr:Au w g .nil (a.eval x):=by simpa[SV.enc,SC.enc,Bp]using hxr
      generalize a.eval x=u at hxr;cases hxr;rfl
     have hr3:r3≠st.nr:=fun e0=>by
      unfold Vs at h;split at h
      ·subst e0;simp only at h;split at h
       ·cases h
       ·rename_i hcc;have hcc:=Decidable.of_not_not hcc;obtain⟨_,_,_,_,_,_,_,_,_,_,_,_,hfr,_⟩:=hcc;have:=(Mv hfr).2.1;simp at this
      ·cases h
     refine Oper.wp_mono (fun a' w' q=>⟨fun _=>q.1 q1,q.2⟩) (Abv (st:=adoptNew st e b) hN h hi' hc.1 hc.2 hev (hx.trans q1.symm) (hy.trans (q2 (r3,[]) hr3).symm))
    ·rw[if_pos (by rw[Bool.eq_false_iff.2 hc];rfl)]at h;cases h
   ·cases h
  ·cases h
 ·rename_i r r3;have hx:a.eval x=g.hdr (r,[]):=by
   have:Au w g (.hd (r,[])) (a.eval x):=by simpa[SV.enc,SC.enc,Bp]using hxr
   exact Cu this
  have hy:a.eval y=g.hdr (r3,[]):=by
   have:Au w g (.hd (r3,[])) (a.eval y):=by simpa[SV.enc,SC.enc,Bp]using hyr
   exact Cu this
  refine Oper.wp_mono (fun a' w' q=>⟨fun hn=> ?_,q.2⟩) (Abv hN h hi hw hk hev hx hy);have:=hnr hn;simp[SV.isNil]at this
 ·rename_i r r1 lo hi' v2;have hx:a.eval x=g.hdr (r,[]):=by
   have:Au w g (.hd (r,[])) (a.eval x):=by simpa[SV.enc,SC.enc,Bp]using hxr
   exact Cu this
  have hy:Au w g (.ro (some r1) ((v2.get ρ).els (some r1))) (a.eval y):=by
   have h1:Au w g (SC.enc ρ (.hs r1 lo hi' v2)) (a.eval y):=by simpa[SV.enc,Bp]using hyr
   simp only[SC.enc]at h1;exact Hv h1
  refine Oper.wp_mono (fun a' w' q=>⟨fun hn=> ?_,q.2⟩) (Sf hN h hi hw hk hev hx hy);have:=hnr hn;simp[SV.isNil]at this
 ·rename_i r v2;have hx:a.eval x=g.hdr (r,[]):=by
   have:Au w g (.hd (r,[])) (a.eval x):=by simpa[SV.enc,SC.enc,Bp]using hxr
   exact Cu this
  have hy:Au w g (.ro none ((v2.get ρ).els none)) (a.eval y):=by simpa[SV.enc,SC.enc,Bp]using hyr
  refine Oper.wp_mono (fun a' w' q=>⟨fun hn=> ?_,q.2⟩) (Sf hN h hi hw hk hev hx hy);have:=hnr hn;simp[SV.isNil]at this
 ·rename_i v2;split at h
  ·rename_i e he;split at h
   ·rename_i b hb;by_cases hc:((adoptNew st e b).wf && (adoptNew st e b).rok)=true
    ·rw[if_neg (fun hh=>by rw[hc]at hh;cases hh)]at h;simp only[Ai]at hc;obtain⟨g',hi',q1,q2,q3⟩:=hi.adoptNew (e:=e) (b:=b) (nl:=true) hk;have hx:a.eval x= .slice none 0 0:=by
      have hxr:Au w g .nil (a.eval x):=by simpa[SV.enc,SC.enc,Bp]using hxr
      generalize a.eval x=u at hxr;cases hxr;rfl
     have hyr' :=Bd hi' (show(adoptNew st e b).val y= .ok (.c (.s none v2))by rw[<-hsy];cases y<;>rfl);have hy:Au w g' (.ro none ((v2.get ρ).els none)) (a.eval y):=by simpa[SV.enc,SC.enc,Bp]using hyr'
     refine Oper.wp_mono (fun a' w' q=>⟨fun _=>q.1 q1,q.2⟩) (Sf (st:=adoptNew st e b) hN h hi' hc.1 hc.2 hev (hx.trans q1.symm) hy)
    ·rw[if_pos (by rw[Bool.eq_false_iff.2 hc];rfl)]at h;cases h
   ·cases h
  ·cases h
 ·cases h
end
end Go.Pu
