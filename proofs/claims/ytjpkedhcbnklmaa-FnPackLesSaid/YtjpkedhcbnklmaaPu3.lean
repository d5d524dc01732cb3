/-
  Own work: parts PuBf, PuBg, PuBh, PuBi, PuBj, PuAc, PuAd, PuAe, PuAf, PuAg of my verified compiler.
-/
import Derived.Test.YtjpkedhcbnklmaaPu2
import Derived.MapKept
import Derived.ProofKit
import Derived.OpenShut
import Derived.Carry
import Derived.ChangeSame
import Derived.Lib.SmallJoins
/-
  Own work. Lists whose elements hold slices of their own: literals of one element, append.
-/
namespace Go.Pu
open Go Go.RowKit
set_option linter.unusedVariables false
set_option linter.unusedSectionVars false
section
variable {X:Ctx} {D:Nat->Prop} {Γ:List FE} {st:St} {ρ:Env} {a:Act} {w w' :World} {g g' :G}
variable {d:Nat} {x y:Operand} {t t' ty:TypeId} {ps:String} {af:Array Edge} {gd:Option (Nat×Bool)} {s:Step} {nr:Bool}
theorem run_buildOne {e:TypeId}{b:Ty}{o:Operand}(ρo:Operand->Value)(he:elemOf X.P t=some e)(hbn:b.n=szOf X.P e)(h0:0<b.n)(hsm:b.n<=16777216)(hz:(zeroN X.P e).isSome=true)(hsz:(ρo o).cells.size=b.n):
 ∃cs:Array Value,(execOp ρo ⟨some d,.buildSlice t 1 #[(0,o)],ty,ps,af,gd⟩).run X.P w= .ok (.value (.slice (some ⟨w.heap.size,0,none⟩) 1 1)) (w.alloc (.cells cs e))/\cs.size=b.n/\∀j,j<b.n->cs[j]? =(ρo o).cells[j]? :=by
 obtain⟨N,hzN⟩:=Option.isSome_iff_exists.1 hz;obtain⟨i,z,hinfo,hzero,hzs⟩:=zeroN_spec hzN;have hu:=elem_under he
 let cs0:=(Array.range (1*b.n)).map (z.cells[· % z.cells.size]!)
 have hcs0:cs0.size=1*b.n:=by simp[cs0]
 obtain⟨cs,hfill,hcsz,_,hcells⟩:=fill_all b.n [ρo o] 0 cs0 (fun v hv=>by simp at hv;subst hv;exact hsz) (by rw[hcs0];simp);refine⟨cs,?_,by rw[hcsz,hcs0];omega,fun j hj=>by have:=hcells 0 (ρo o) rfl j hj;simpa using this⟩;have hlim:¬(1*b.n>2 ^ 24):=by omega
 have hm1:¬1*b.n=0:=by omega
 have hfill' :Instr.fill (fun i=>some (i*b.n,b.n)) ((Array.range (1*b.n)).map (z.cells[· % z.cells.size]!)) [(0,ρo o)]=some cs:=hfill;rw[Nat.one_mul]at hfill';have hzv:(zeroValue e).run X.P w= .ok z w:=by simp[zeroValue,typeInfo,hinfo,hzero]
 have hso:=run_sizeOf (P:=X.P) (w:=w) (t:=e) (by omega);rw[<-hbn]at hso;simp only[execOp,Instr.buildSlice,Sem.run_bind,run_underlying hu,Result.andThen_ok,hso,hlim,if_false,hm1,hzv,Sem.run_pure];simp[hfill',newRow]
theorem taken_leafs (hi:TInv X D st ρ a w g){r0:Nat}{b:Ty}{cs:List SC}{l:List (At×Option Nat)}(ht:st.takeN r0 b.leaves cs= .ok l):leafs b (mkv b ((l.map (·.1)).map (At.get ρ))).1=l.map fun p=>p.1.get ρ:=by
 obtain⟨e1,e2,e3⟩:=takeN_get _ _ _ ht;rw[List.map_map];refine leafs_mk b _ ?_
 apply List.ext_getElem?;intro j;rw[List.getElem?_map,List.getElem?_map,Option.map_map];cases hj:l[j]? with
 | none=>rw[List.getElem?_eq_none (by rw[<-e2];exact List.getElem?_eq_none_iff.1 hj)];rfl
 | some p=>
  have hjl:j<l.length:=(List.getElem?_eq_some_iff.1 hj).1;have ht:b.leaves[j]? =some (b.leaves[j]'(by omega)):=List.getElem?_eq_getElem (by omega);obtain⟨x,o⟩:=p;have:=e3 j _ _ x o ht (List.getElem?_eq_getElem (by omega)) hj;rw[ht];simp only[Option.map_some,Function.comp,Option.some.injEq];exact At.ty_get hi.typ this.ty
theorem Taken.lt {r0:Nat}{t:Ty}{c:SC}{x:At}{r:Nat}(h:Taken st r0 t c x (some r)):r<st.nr:=by
 cases h with
 | own e b r x nl hr=>exact rk_lt (fun e0=>by rw[hr]at e0;cases e0)
theorem buildNest_ok (hN:d<X.N){e:TypeId}{b:Ty}{o:Operand}(he:elemOf X.P t=some e)(h:buildNest X.P st d e b [(0,o)]= .ok s):WStep X D Γ nr st ⟨some d,.buildSlice t 1 #[(0,o)],ty,ps,af,gd⟩ s:=by
 unfold buildNest at h;obtain⟨v,hv,h⟩:=ok_bind h;obtain⟨cs,hcs,h⟩:=ok_bind h;obtain⟨l,hl,h⟩:=ok_bind h;simp only at h;generalize hst3:(((st.bind (.sl e b)).push .dead).put d (.c (.h st.nr))).strike (takenOf l)=st3 at h;by_cases hc:(b.flat1=true/\b.n=szOf X.P e/\0<b.n/\b.n<=16777216/\(zeroN X.P e).isSome=true/\st3.freed st.nr (takenOf l)=true/\st3.nr=st.nr+1/\st.dirty.isEmpty=true)
 case neg=>rw[if_pos hc]at h;cases h
 rw[if_neg (fun hh=>hh hc)]at h;simp only[Except.ok.injEq]at h;subst h;obtain⟨hf,hbn,h0,hsm,hz,hfr,hnr3,hdty⟩:=hc;intro ρ ρ' a w g hi hw hk hev;obtain⟨q1,q2⟩:=cells_rep hi hv hcs;obtain⟨t1,t2,t3⟩:=takeN_get _ _ _ hl;have hcl:cs.length=b.n:=by rw[t1,leaves_length]
 obtain⟨v1,hv1,rfl⟩:=evalB_one hev;simp only[Ex.den1,Ex.den,List.map_cons,List.map_nil,Option.some.injEq]at hv1;subst hv1;have hleafs:=taken_leafs hi hl;generalize hy0:(mkv b ((l.map (·.1)).map (At.get ρ))).1=y0 at hleafs;obtain⟨csA,hrun,hcsz,hcells⟩:=run_buildOne (d:=d) (ty:=ty) (ps:=ps) (af:=af) (gd:=gd) (w:=w) (o:=o) a.eval he hbn h0 hsm hz (by rw[q1,hcl]);unfold Oper.wp;rw[hrun];refine⟨fun _=> .of_lat (lat_alloc _ _),?_⟩;have hi2:=hi.bindOne hw (v:=⟨.sl e b,[y0]⟩) rfl;obtain⟨g1,hg1,n1,n2,n3,n4⟩:=hi2.newRootX (rok_bind hk _) hN .dead (.cells csA e) (.slice (some ⟨w.heap.size,0,none⟩) 1 1) (fun g' _ _ _ _ _ _ p row hr=>by rw[rows_dead]at hr;cases hr);have hnr2:(st.bind (.sl e b)).nr=st.nr:=rfl;rw[hnr2]at n1 n2 n3;have h3:=strike_ok (takenOf l) hg1;have e3:(((st.bind (.sl e b)).push .dead).put d (.c (.h (st.bind (.sl e b)).nr))).strike (takenOf l)=st3:=hst3;rw[e3]at h3;have hd3:st3.dirty=[]:=by
  rw[<-hst3];have h1:(((((st.bind (.sl e b)).push .dead).put d (.c (.h st.nr))).strike (takenOf l))).dirty=st.dirty:=killR_dirty _ _;rw[h1];simpa using hdty
 obtain⟨f1,f2,f3,f4,f5,f6,f7⟩:=freed_spec hfr;have hgy:∀(j:Nat) (q:C),(encL ρ cs)[j]? =some q->∃x o t0 c,l[j]? =some (x,o)/\q=c.enc ρ/\(l.map fun p=>p.1.get ρ)[j]? =some (x.get ρ)/\Taken st st.nr t0 c x o:=fun j q hq=>by
  rw[encL_map,List.getElem?_map,Option.map_eq_some_iff]at hq;obtain⟨c,hc,rfl⟩:=hq;have hjl:j<cs.length:=(List.getElem?_eq_some_iff.1 hc).1;have htj:b.leaves[j]? =some (b.leaves[j]'(by omega)):=List.getElem?_eq_getElem (by omega);have hlj:l[j]? =some (l[j]'(by omega)):=List.getElem?_eq_getElem (by omega);generalize l[j]'(by omega)=p at hlj;obtain⟨x,o⟩:=p;exact⟨x,o,_,c,hlj,rfl,by rw[List.getElem?_map,hlj];rfl,t3 j c _ x o htj hc hlj⟩
 have hencl:(encL ρ cs).length=b.n:=by rw[encL_map,List.length_map];exact hcl
 have hgost:∀{t0:Ty} {c:SC} {x:At} {o:Option Nat} {u:Value} {w2:World},Taken st st.nr t0 c x o->CRep w g (c.enc ρ) u->CRep w2 g1 (c.enc ρ) u:=fun {t0 c x o u w2} ht hu=>by
  have hpl:=ht.plain hi;cases ht with
  | nil e b=>simp only[SC.enc]at hu ⊢;cases hu;exact .nil
  | own e b r x nl hr hf ht hne hx=>
   simp only[SC.enc]at hu ⊢;exact .hd _ _ ((hd_eq hu).trans (n3 (r,[]) (rk_lt (fun e0=>by rw[hr]at e0;cases e0))).symm)
  | sc t x hs ht=>
   rcases hpl with⟨k,z,h⟩ | ⟨b,h⟩ | h | ⟨l,h⟩
   ·rw[h]at hu ⊢;cases hu;exact .int _ _
   ·rw[h]at hu ⊢;cases hu;exact .bool _
   ·rw[h]at hu ⊢;cases hu;exact .nil
   ·simp only[SC.enc,V.c]at h;split at h<;>cases h
 have hrw:RowRep X.P (w.alloc (.cells csA e)) g1 (st.nr,[]) (.row false true e [encL ρ cs]):=by
  refine list_row (cap:=1) (f:=fun _ k=>csA.getD k undef) (by simpa using n1) n2 (Nat.le_refl _) (by simp only[maxLen];omega) (by omega) (by rw[hcsz,hbn];omega) (fun i c hc=> ?_) (fun _ e0=>by cases e0) (fun i c k q hc hq=> ?_)
  ·cases i with
   | zero=>cases hc;rw[hencl,hbn]
   | succ i=>cases hc
  ·cases i with
   | succ i=>cases hc
   | zero=>
    cases hc;obtain⟨x,o,t0,c,g2,rfl,_,g4⟩:=hgy k q hq;obtain⟨u,hu,hr1,_⟩:=q2 k _ hq;have hkl:k<b.n:=by rw[<-hencl];exact(List.getElem?_eq_some_iff.1 hq).1
    have hck:csA[k]? =some u:=by rw[hcells k hkl];exact hu
    have hcd:csA.getD k undef=u:=by rw[Array.getD_eq_getD_getElem?,hck];rfl
    refine⟨by rw[Nat.zero_mul,Nat.zero_add,hcd];exact hck,?_⟩;rw[hcd];exact hgost g4 hr1
 let src:Nat->Nat->Option Loc:=fun i j=>if i=0 then((l[j]?).bind (·.2)).map (fun r2=>(r2,[]))else none
 have hsrcIn:∀(j:Nat) (x:At) (o:Option Nat),l[j]? =some (x,o)->src 0 j=o.map fun r=>(r,[]):=fun j x o h=>by simp only[src,if_true,h];rfl
 have hsrcCase:∀(i j:Nat) (l0:Loc),src i j=some l0->i=0/\∃x r2,l[j]? =some (x,some r2)/\l0=(r2,[]):=fun i j l0 h=>by
  simp only[src]at h;split at h
  ·rename_i h0;rw[Option.map_eq_some_iff]at h;obtain⟨r2,h1,rfl⟩:=h;rw[Option.bind_eq_some_iff]at h1;obtain⟨⟨x,o⟩,h2,h3⟩:=h1;simp only at h3;subst h3;exact⟨h0,x,r2,h2,rfl⟩
  ·cases h
 have hone:∀(i:Nat) (y2:b.den),([y0]:List b.den)[i]? =some y2->i=0/\y2=y0:=fun i y2 h=>by
  cases i with
  | zero=>cases h;exact⟨rfl,rfl⟩
  | succ i=>cases h
 refine Exists.elim (h3.regroup (R0:=st.nr) (e:=e) (b:=b) (v:=st.ref) (nl:=true) (xs:=[y0]) (els:=[encL ρ cs]) src (by rw[ref_get hi.len];exact V.as_self _ _) hf f5 f6 (fun r2 hr2=> ?_) (fun i1 j1 i2 j2 l0 h1 h2=> ?_) (fun i2 j h=> ?_) (.inl hd3) (fun r' e0=>by rw[hd3]at e0;cases e0) hrw rfl (fun i2 c y2 hc hy2=> ?_) (fun i2 y2 j V row hy2 hV hVr=> ?_)) (fun g' hg' =>⟨g',hg'.1⟩)
 ·obtain⟨p1,p2⟩:=f7 r2 hr2;refine⟨p1,fun i2 j p h=> ?_⟩;obtain⟨_,x,r3,h1,h2⟩:=hsrcCase i2 j _ h;cases h2;exact p2 (mem_takenOf h1)
 ·obtain⟨a1,x,r3,a4,a5⟩:=hsrcCase _ _ _ h1;obtain⟨b1,x',r3',b4,b5⟩:=hsrcCase _ _ _ h2;rw[a5]at b5;cases b5
  rw[a1,b1,takenOf_inj f1 a4 b4]
 ·obtain⟨_,x,r3,h1,h2⟩:=hsrcCase _ _ _ h;cases h2;have:(takenOf l).contains st.nr=true:=by simpa using mem_takenOf h1
  rw[this]at f2;cases f2
 ·obtain⟨rfl,rfl⟩:=hone i2 y2 hy2;cases hc;refine⟨hencl,fun j q V u hq hV hu=> ?_⟩;obtain⟨x,o,t0,c,g2,rfl,g3,g4⟩:=hgy j q hq;rw[hleafs,g3]at hV;cases hV;rw[hsrcIn j x o g2];exact g4.fit hi.typ hu
 ·obtain⟨rfl,rfl⟩:=hone i2 y2 hy2;have hfl:=leafRow_ty hf hV;have hrr:Row.Rel (fun _ _=>False) (fun _ _=>False) row row:=leafRow_flat hVr hfl;have hjl:j<(encL ρ cs).length:=by rw[hencl,<-leafs_length b y2];exact(List.getElem?_eq_some_iff.1 hV).1
  obtain⟨x,o,t0,c,g2,_,g3,g4⟩:=hgy j _ (List.getElem?_eq_getElem hjl);rw[hleafs,g3]at hV;cases hV;rw[hsrcIn j x o g2];cases g4 with
  | nil e' b2=>
   simp only[Option.map_none];simp only[At.get,Ty.dflt,leafRow,List.map_nil,Option.some.injEq]at hVr;exact⟨e',hVr.symm⟩
  | own e' b2 r2 x nl2 hr2 hf2 ht2 hne2 hx2=>
   simp only[Option.map_some];have hlt2:r2<st.nr:=rk_lt (fun e0=>by rw[hr2]at e0;cases e0);exact(list_leaf hi hr2 hf2 ht2 hVr).rel (ml:=fun _ _=>False) (mr:=fun _ _=>False) (fun _ _ h=>h.elim) (fun _ _ h=>h.elim) (n3 _ hlt2) (fun b0 hb0=>n4 b0 _ hb0) hrr
  | sc t0 x hs ht=>
   have hty:=At.ty_get hi.typ ht;cases t0 with
   | int kd=>rw[V.int_of hty]at hVr;cases hVr
   | bool=>rw[V.bool_of hty]at hVr;cases hVr
   | _=>cases hs
theorem takeS_cons {t:Ty}{ts:List Ty}{c:SC}{cs:List SC}{ys:List At}(h:st.takeS (t::ts) (c::cs)= .ok ys):∃y ys',ys=y::ys'∧st.takeS ts cs= .ok ys'∧
 ((∃e b,t= .sl e b/\c= .nil/\y= .nil t)\/(∃e b,t= .sl e b/\c= .s none y/\y.ty st.ts=some t)\/(t.scalar=true/\c= .v y/\y.ty st.ts=some t)):=by
 simp only[St.takeS]at h;have hb0:=ok_bind h
 clear h
 obtain⟨ys',h1,h⟩:=hb0;split at h
 ·rename_i e b;cases h;exact⟨_,ys',rfl,h1,.inl ⟨e,b,rfl,rfl,rfl⟩⟩
 ·rename_i e b x;split at h
  ·rename_i hc;cases h;exact⟨x,ys',rfl,h1,.inr (.inl ⟨e,b,rfl,rfl,hc⟩)⟩
  ·cases h
 ·rename_i x;split at h
  ·rename_i hc;cases h;exact⟨x,ys',rfl,h1,.inr (.inr ⟨hc.1,rfl,hc.2⟩)⟩
  ·cases h
 ·cases h
theorem takeS_get (hi:TInv X D st ρ a w g):∀(ts:List Ty) (cs:List SC) (ys:List At),st.takeS ts cs= .ok ys->cs.length=ts.length/\ys.length=ts.length/\(∀y∈ys,y.lt st.ts.length=true)/\∀(k:Nat) (t:Ty),ts[k]? =some t->∃c y q,cs[k]? =some c/\ys[k]? =some y/\enc none t (mkv t [y.get ρ]).1=[q]/\∀(w2:World) (g2:G) (v:Value),CRep w2 g2 (c.enc ρ) v->CRep w2 g2 q v
 | [],[],ys,h=>by simp only[St.takeS,Except.ok.injEq]at h;subst h;exact⟨rfl,rfl,fun y hy=>(by cases hy),fun k t h=>(by simp at h)⟩
 | t::ts,c::cs,ys,h=>by
  obtain⟨y,ys',rfl,h1,hc⟩:=takeS_cons h;obtain⟨e1,e2,e3,e4⟩:=takeS_get hi ts cs ys' h1;refine⟨by simp[e1],by simp[e2],fun y2 hy=> ?_,fun k u hu=> ?_⟩
  ·rcases List.mem_cons.1 hy with rfl | hy
   ·rcases hc with⟨e,b,rfl,rfl,rfl⟩ | ⟨e,b,rfl,rfl,ht⟩ | ⟨_,rfl,ht⟩
    ·rfl
    ·exact At.ty_lt ht
    ·exact At.ty_lt ht
   ·exact e3 y2 hy
  ·cases k with
   | succ k=>simpa using e4 k u (by simpa using hu)
   | zero=>
    simp only[List.getElem?_cons_zero,Option.some.injEq]at hu;subst hu;rcases hc with⟨e,b,rfl,rfl,rfl⟩ | ⟨e,b,rfl,rfl,ht⟩ | ⟨hs,rfl,ht⟩
    ·refine⟨_,_,.ro none [],rfl,rfl,?_,fun w2 g2 v hv=> ?_⟩
     ·show [C.ro none (List.map (enc none b) (mkv (.sl e b) [⟨.sl e b,([]:List b.den)⟩]).1)]=_;rw[mkv_sl];rfl
     ·simp only[SC.enc]at hv;cases hv;exact .ro0 _ _ _
    ·have hv:=At.ty_get hi.typ ht;refine⟨_,_,.ro none ((y.get ρ).els none),rfl,rfl,?_,fun w2 g2 v hv=>hv⟩;rw[V.list_of hv];simp[mkv,enc,V.els]
    ·have hv:=At.ty_get hi.typ ht;cases t with
     | int kd=>
      refine⟨_,_,.int kd (y.get ρ).int,rfl,rfl,rfl,fun w2 g2 v h2=> ?_⟩;simp only[SC.enc]at h2;rw[V.int_of hv]at h2;exact h2
     | bool=>
      refine⟨_,_,.bool (y.get ρ).bool,rfl,rfl,rfl,fun w2 g2 v h2=> ?_⟩;simp only[SC.enc]at h2;rw[V.bool_of hv]at h2;exact h2
     | _=>cases hs
 | [],_::_,_,h=>by simp[St.takeS]at h
 | _::_,[],_,h=>by simp[St.takeS]at h
theorem takeS_rep (hi:TInv X D st ρ a w g){t:Ty}{cs:List SC}{ys:List At}(h:st.takeS t.leaves cs= .ok ys):ys.length=t.n/\cs.length=t.n/\(∀y∈ys,y.lt st.ts.length=true)/\
 ∀(k:Nat) (q:C),(enc none t (mkv t (ys.map (At.get ρ))).1)[k]? =some q->∃c,cs[k]? =some c/\∀(w2:World) (g2:G) (v:Value),CRep w2 g2 (c.enc ρ) v->CRep w2 g2 q v:=by
 obtain⟨e1,e2,e3,e4⟩:=takeS_get hi _ _ _ h;have hl:=leaves_length t;refine⟨by omega,by omega,e3,fun k q hq=> ?_⟩;have hk:k<t.n:=by rw[<-enc_length none t (mkv t (ys.map (At.get ρ))).1];exact(List.getElem?_eq_some_iff.1 hq).1
 have hu:t.leaves[k]? =some (t.leaves[k]'(by omega)):=List.getElem?_eq_getElem (by omega);obtain⟨c,y,q',h1,h2,h3,h4⟩:=e4 k _ hu;have:=enc_mk_get t (ys.map (At.get ρ)) k _ (y.get ρ) q (by rw[List.length_map];omega) hu (by rw[List.getElem?_map,h2];rfl) hq;rw[h3]at this;cases this;exact⟨c,h1,h4⟩
theorem buildShare_ok (hN:d<X.N){e:TypeId}{b:Ty}{o:Operand}(he:elemOf X.P t=some e)(h:buildShare X.P st d e b [(0,o)]= .ok s):WStep X D Γ nr st ⟨some d,.buildSlice t 1 #[(0,o)],ty,ps,af,gd⟩ s:=by
 unfold buildShare at h;obtain⟨v,hv,h⟩:=ok_bind h;obtain⟨cs,hcs,h⟩:=ok_bind h;obtain⟨xs,hxs,h⟩:=ok_bind h;by_cases hc:(b.nomap=true/\b.n=szOf X.P e/\0<b.n/\b.n<=16777216/\(zeroN X.P e).isSome=true)
 case neg=>rw[if_pos hc]at h;cases h
 rw[if_neg (fun hh=>hh hc)]at h;simp only[Except.ok.injEq]at h;subst h;obtain⟨hnm,hbn,h0,hsm,hz⟩:=hc;intro ρ ρ' a w g hi hw hk hev;obtain⟨q1,q2⟩:=cells_rep hi hv hcs;obtain⟨t1,t2,t3,t4⟩:=takeS_rep hi hxs;obtain⟨v1,hv1,rfl⟩:=evalB_one hev;simp only[Ex.den1,Ex.den,List.map_cons,List.map_nil,Option.some.injEq]at hv1;subst hv1;generalize hy0:(mkv b (xs.map (At.get ρ))).1=y0 at t4;obtain⟨csA,hrun,hcsz,hcells⟩:=run_buildOne (d:=d) (ty:=ty) (ps:=ps) (af:=af) (gd:=gd) (w:=w) (o:=o) a.eval he hbn h0 hsm hz (by rw[q1,t2]);unfold Oper.wp;rw[hrun];have hi2:=hi.bindOne hw (v:=⟨.sl e b,[y0]⟩) rfl;have hvv:(st.ref.get (ρ++[⟨.sl e b,[y0]⟩])).as (.sl e b)=[y0]:=by rw[ref_get hi.len];exact V.as_self _ _
 refine⟨fun _=> .of_lat (lat_alloc _ _),hi2.newRoot (rok_bind hk _) hN _ _ _ fun g' n1 n2 n3 n4 n5 n6 p row hr=> ?_⟩;cases p with
 | cons q p=>simp only[RK.rows]at hr;cases hr
 | nil=>
  rw[rows_nil_list,hvv]at hr;simp only[Option.some.injEq]at hr;subst hr;have e0:(([y0]:List b.den).mapIdx fun i y=>encIn (some none) (st.bind (.sl e b)).nr i b y)=[enc none b y0]:=rfl;rw[e0];refine list_row (cap:=1) (f:=fun _ k=>csA.getD k undef) n2 n4 (Nat.le_refl _) (by simp only[maxLen];omega) (by omega) (by rw[hcsz,hbn];omega) (fun i c hc=> ?_) (fun _ e0=>by cases e0) (fun i c k q hc hq=> ?_)
  ·cases i with
   | zero=>cases hc;rw[enc_length,hbn]
   | succ i=>cases hc
  ·cases i with
   | succ i=>cases hc
   | zero=>
    cases hc;obtain⟨c,g2,g4⟩:=t4 k q hq;obtain⟨u,hu,hr1,_⟩:=q2 k (c.enc ρ) (by rw[encL_map,List.getElem?_map,g2];rfl);have hkl:k<b.n:=by rw[<-enc_length none b y0];exact(List.getElem?_eq_some_iff.1 hq).1
    have hck:csA[k]? =some u:=by rw[hcells k hkl];exact hu
    have hcd:csA.getD k undef=u:=by rw[Array.getD_eq_getD_getElem?,hck];rfl
    refine⟨by rw[Nat.zero_mul,Nat.zero_add,hcd];exact hck,?_⟩;rw[hcd];exact(g4 w g u hr1).rel (ml:=fun _ _=>False) (mr:=fun a b=>a=none/\b=none) (fun _ _ h=>h.elim) (fun a b ⟨h1,h2⟩ k hk=>by subst h1 h2;exact n6 none (fun r h=>by cases h) k hk) (enc_rel b (.inr ⟨rfl,rfl⟩) y0 k q q hq hq)
theorem buildSlice'_ok {m:Nat}{parts:Array (Nat×Operand)}(hN:d<X.N)(h:stepBuildSlice' X.P st d t m parts.toList= .ok s):WStep X D Γ nr st ⟨some d,.buildSlice t m parts,ty,ps,af,gd⟩ s:=by
 unfold stepBuildSlice' at h;split at h
 ·rename_i e he;split at h
  ·rename_i b hb;split at h
   ·rename_i hc;obtain⟨rfl,_⟩:=hc;split at h
    ·have:∃o,parts.toList=[(0,o)]:=by
      unfold buildShare at h;split at h
      ·exact⟨_,by assumption⟩
      ·cases h
     obtain⟨o,ho⟩:=this;have hp:parts= #[(0,o)]:=by
      have:parts=parts.toList.toArray:=by simp
      rw[this,ho]
     subst hp;exact buildShare_ok hN he h
    have:∃o,parts.toList=[(0,o)]:=by
     unfold buildNest at h;split at h
     ·exact⟨_,by assumption⟩
     ·cases h
    obtain⟨o,ho⟩:=this;have hp:parts= #[(0,o)]:=by
     have:parts=parts.toList.toArray:=by simp
     rw[this,ho]
    subst hp;exact buildNest_ok hN he h
   ·exact buildSlice_ok hN h
  ·cases h
 ·cases h
theorem leaf_row_one (hi:TInv X D st ρ a w g){r:Nat}{p:List (Nat×Nat)}{nl:Bool}{e:TypeId}{els:List (List C)}(h:RowRep X.P w g (r,p) (.row false nl e els)):(g.hdr (r,p)).oneCell' =true:=by
 cases h with
 | nil _ _ hd=>rw[hd];rfl
 | zero _ A hd=>rw[hd];rfl
 | full _ _ _ _ b base n cap cs f hf=>rw[hf.hd];rfl
theorem appNest_ok (hN:d<X.N){r r3:Nat}(h:appNest X.P st d t r r3= .ok s)(hi:TInv X D st ρ a w g)(hw:st.wf=true)(hk:st.rok=true){ρ' :Env}(hev:evalB Γ (s.es.map (·.1)) ρ=some ρ')(hx:a.eval x=g.hdr (r,[]))(hy:a.eval y=g.hdr (r3,[])):
 (⟨some d, .call { callee := .builtin .append, args := #[x, y], argTypes := #[t, t] }, ty, ps, af, gd⟩ : Oper).wp X.P a w (fun a' w' => (g.hdr (r, []) = .slice none 0 0 → RelD D w w') ∧ ∃ g', TInv X D s.st ρ' a' w' g') (fun _ _ _ => False) := by
 unfold appNest at h;split at h
 case h_2=>cases h
 rename_i e e1 b v nl e3 b3 v3 nl3 he hr hr3;simp only at h;generalize hst4:((((st.bind (.sl e b)).kill true r).setR r .dead).strike [r3]).put d (.c (.h r))=st4 at h;by_cases hc:(e1=e/\e3=e/\b3=b/\b.flat1=true/\v.ty st.ts=some (.sl e b)/\v3.ty st.ts=some (.sl e b)/\(!st.fix.contains r)=true/\(!st.fix.contains r3)=true/\b.n=szOf X.P e/\0<b.n/\0<bytesOf X.P e/\zeroN X.P e=some b.n/\st4.freed r [r3]=true/\st4.nr=st.nr/\st.dirty.isEmpty=true)
 case neg=>rw[if_pos hc]at h;cases h
 rw[if_neg (fun hh=>hh hc)]at h;simp only[Except.ok.injEq]at h;subst h;obtain⟨rfl,rfl,rfl,hf,hvt,hvt3,hfix,hfix3,hbn,h0,hby0,hz,hfr,hnr4,hdty⟩:=hc;have hfix:st.fix.contains r=false:=by simpa using hfix
 have hdty:st.dirty=[]:=by simpa using hdty
 obtain⟨f1,f2,f3,f4,f5,f6,f7⟩:=freed_spec hfr;have hne:r3≠r:=fun e0=>by subst e0;simp at f2
 obtain⟨ti,z,hinfo,hzero,hzs⟩:=zeroN_spec hz;have hu:=elem_under he;have hrow:=row_of hi hr;have hrow3:=row_of hi hr3;have hvg:=V.list_of (At.ty_get hi.typ hvt);have hvg3:=V.list_of (At.ty_get hi.typ hvt3);have hsub:∀(i j:Nat) (y2:b3.den) (row:Row),((v.get ρ).as (.sl e3 b3):List b3.den)[i]? =some y2->subRow 0 b3 y2 j=some row->RowRep X.P w g (r,[(i,j)]) row:=fun i j y2 row h1 h2=>
  hi.inv.row (r,[(i,j)]) row (by simp only[hr,RK.rows,h1];exact h2)
 have hsub3:∀(i j:Nat) (y2:b3.den) (row:Row),((v3.get ρ).as (.sl e3 b3):List b3.den)[i]? =some y2->subRow 0 b3 y2 j=some row->RowRep X.P w g (r3,[(i,j)]) row:=fun i j y2 row h1 h2=>
  hi.inv.row (r3,[(i,j)]) row (by simp only[hr3,RK.rows,h1];exact h2)
 generalize hxs:(v.get ρ).as (.sl e3 b3)=xs at hrow hsub hvg;generalize hys:(v3.get ρ).as (.sl e3 b3)=ys at hrow3 hsub3 hvg3;obtain⟨v',hv',rfl⟩:=evalB_one hev;simp only[Ex.den1,Ex.den,hvg,hvg3,V.as_self,Option.bind_eq_some_iff,Option.some.injEq]at hv';obtain⟨zs,hzs',rfl⟩:=hv';obtain⟨fit1,fit2,rfl⟩:=gapp_ok hzs';have hE:∀{r:Nat} {xs:List b3.den} (i:Nat) (c:List C),(xs.mapIdx fun i y=>encIn none r i b3 y)[i]? =some c->∃y2,xs[i]? =some y2/\c=encE r i 0 b3 y2:=fun {r xs} i c hc=>by
  rw[List.getElem?_mapIdx,Option.map_eq_some_iff]at hc;obtain⟨y2,hy2,rfl⟩:=hc;exact⟨y2,hy2,rfl⟩
 have hsE:∀{r:Nat} {xs:List b3.den} (i:Nat) (c:List C),(xs.mapIdx fun i y=>encIn none r i b3 y)[i]? =some c->c.length=szOf X.P e3:=fun {r xs} i c hc=>by
  obtain⟨y2,_,rfl⟩:=hE i c hc;rw[encE_length,hbn]
 have hl1:(xs.mapIdx fun i y=>encIn none r i b3 y).length=xs.length:=by simp
 have hl3:(ys.mapIdx fun i y=>encIn none r3 i b3 y).length=ys.length:=by simp
 obtain⟨A,cap2,fn,hyv,hcells,hreps⟩:=ro_view (row_ro hrow3) hsE;have hone:∀(i:Nat) (c:List C) (k:Nat) (q:C),(ys.mapIdx fun i y=>encIn none r3 i b3 y)[i]? =some c->c[k]? =some q->(fn i k).oneCell' =true:=fun i c k q h1 h2=>by
  obtain⟨y2,hy2,rfl⟩:=hE i c h1;have hq:=hreps i _ k q h1 h2;rw[encE_leaf,Nat.zero_add,Option.map_eq_some_iff]at h2;obtain⟨V,hV,rfl⟩:=h2;rcases flat1_leaf b3 y2 k V hf hV with⟨kd,z,rfl⟩ | ⟨bv,rfl⟩ | ⟨e',a',zs',rfl,_⟩
  ·generalize fn i k=u at hq;cases hq;rfl
  ·generalize fn i k=u at hq;cases hq;rfl
  ·simp only[leafC]at hq;rw[hd_eq hq];have:=subRow_leaf b3 0 y2 k;rw[Nat.zero_add,hV]at this;exact leaf_row_one hi (hsub3 i k y2 _ hy2 this)
 obtain⟨v',w',g1,hrun,hA,hrw⟩:=append_core (t:=t) (ty:=ty) (A:=A) (cap2:=cap2) (fn:=fn) hi.inv.ok hrow hu hinfo hzero (by rw[hzs,hbn]) (by omega) hsE hsE (by simp only[hl1,hl3,gfit,decide_eq_true_eq];exact⟨fit1,fit2⟩) hby0 hcells (fun i c k q h1 h2=>⟨hreps i c k q h1 h2,hone i c k q h1 h2⟩)
  (fun i c k q h1 h2=>by obtain⟨y2,_,rfl⟩:=hE i c h1;exact encE_ok (fun k e0=>by cases e0) b3 0 y2 k q h2) (fun i c k q h1 h2=>by obtain⟨y2,_,rfl⟩:=hE i c h1;exact encE_ok (fun k e0=>by cases e0) b3 0 y2 k q h2)
 have hexec:(execOp a.eval ⟨some d,.call { callee:= .builtin .append,args:= #[x,y],argTypes:= #[t,t] },ty,ps,af,gd⟩).run X.P w= .ok (.value v') w' :=by
  have hyv2:a.eval y= .slice A (ys.mapIdx fun i y=>encIn none r3 i b3 y).length cap2:=hy.trans hyv;simp only[execOp,resolve,invoke,builtin,Sem.run_bind,Sem.run_pure,Result.andThen_ok,List.map_toArray,List.map_cons,List.map_nil,hx,hyv2,hrun]
 unfold Oper.wp;rw[hexec];refine⟨fun hnil=>⟨hA.size,fun b0 hb0 _=>hA.new hnil b0 hb0⟩,?_⟩;have hi2:=hi.bindOne hw (v:=⟨.sl e3 b3,xs++ys⟩) rfl;have S:Stab (st.bind (.sl e3 b3)).nr true r w g w' g1:=⟨fun l h1 h2 h3=>hA.hdr l (fun e0=>by subst e0;rcases h1 with h1 | h1;cases h1;exact h1 rfl),fun rg hne2 _ b0 hb0=>by
  cases rg with
  | none=>
   have hS:g.S b0:=hb0;exact⟨by show g1.S b0;rw[hA.S];exact hS,hA.keep b0 (hi.inv.ok.S b0 hS).1 fun ho=>(hi.inv.ok.own b0 _ ho).2.2 hS⟩
  | some r' =>
   rcases hb0 with hS | ⟨q,ho⟩
   ·exact⟨.inl (by rw[hA.S];exact hS),hA.keep b0 (hi.inv.ok.S b0 hS).1 fun ho=>(hi.inv.ok.own b0 _ ho).2.2 hS⟩
   ·exact⟨.inr ⟨q,hA.own _ _ ho⟩,hA.keep b0 (hi.inv.ok.own b0 _ ho).2.1 fun ho2=>by rw[ho]at ho2;cases ho2;exact hne2 rfl⟩⟩
 have hm:TInv X D { (((st.bind (.sl e3 b3)).kill true r).setR r .dead)with dirty:=st.dirty } (ρ++[⟨.sl e3 b3,xs++ys⟩]) a w' g1:=
  hi2.mut (rok_bind hk _) S hA.ok .dead (fun p row hp=>by rw[rows_dead]at hp;cases hp) (fun _=>hfix) (fun b0 l hl ho=>⟨hA.own _ _ ho,hA.keep b0 (hi.inv.ok.own b0 _ ho).2.1 fun ho2=>by rw[ho]at ho2;cases ho2;exact hl rfl⟩) st.dirty
   ⟨fun b0 hb0=>absurd hb0 (noD hi hdty b0),fun r0 b0 q hq=>by rw[hdty]at hq;cases hq⟩
 have h3:=TInv.put (strike_ok [r3] hm) hN (sv:= .c (.h r)) (v:=v') (.hd _ _ hA.top.symm);have e4:(({ (((st.bind (.sl e3 b3)).kill true r).setR r .dead)with dirty:=st.dirty }:St).strike [r3]).put d (.c (.h r))=st4:=hst4;rw[e4]at h3;have hd4:st4.dirty=[]:=by
  rw[<-hst4];have h1:(((((st.bind (.sl e3 b3)).kill true r).setR r .dead).strike [r3]).put d (.c (.h r))).dirty=st.dirty:=killR_dirty _ _;rw[h1];exact hdty
 have hval:((At.r ⟨st.nx,[]⟩).get (ρ++[⟨.sl e3 b3,xs++ys⟩])).as (.sl e3 b3)=xs++ys:=by
  have h2:(At.r ⟨st.nx,[]⟩).get (ρ++[⟨.sl e3 b3,xs++ys⟩])=⟨.sl e3 b3,xs++ys⟩:=ref_get hi.len;rw[h2];exact V.as_self _ _
 let src:Nat->Nat->Option Loc:=fun i j=>if i<xs.length then some (r,[(i,j)])else some (r3,[(i - xs.length,j)])
 have sOk:∀i j l0,src i j=some l0->(i<xs.length/\l0=(r,[(i,j)]))\/(xs.length<=i/\l0=(r3,[(i - xs.length,j)])):=fun i j l0 h=>by
  simp only[src]at h;split at h
  ·rename_i hlt;cases h;exact .inl ⟨hlt,rfl⟩
  ·rename_i hge;cases h;exact .inr ⟨by omega,rfl⟩
 refine Exists.elim (h3.regroup (R0:=r) (e:=e3) (b:=b3) (v:= .r ⟨st.nx,[]⟩) (nl:=nl) (xs:=xs++ys) (els:=_) src hval hf f5 f6 (fun r2 hr2=> ?_) (fun i1 j1 i2 j2 l0 h1 h2=> ?_) (fun i2 j h=> ?_) (.inl hd4) (fun r' e0=>by rw[hd4]at e0;cases e0) hrw (by simp) (fun i c y2 hc hy2=> ?_) (fun i y2 j V row hy2 hV hVr=> ?_)) (fun g' hg' =>⟨g',hg'.1⟩)
 ·obtain⟨p1,p2⟩:=f7 r2 hr2;refine⟨p1,fun i2 j p h=> ?_⟩;rcases sOk _ _ _ h with⟨_,h⟩ | ⟨_,h⟩<;>cases h
  ·exact p1 rfl
  ·exact p2 (by simp)
 ·rcases sOk _ _ _ h1 with⟨a1,a2⟩ | ⟨a1,a2⟩<;>rcases sOk _ _ _ h2 with⟨b1,b2⟩ | ⟨b1,b2⟩<;>rw[a2]at b2
  ·cases b2;rfl
  ·simp only[Prod.mk.injEq]at b2;exact absurd b2.1 (Ne.symm hne)
  ·simp only[Prod.mk.injEq]at b2;exact absurd b2.1 hne
  ·simp only[Prod.mk.injEq,List.cons.injEq,true_and,and_true]at b2;rw[b2.2,show i1=i2 from by omega]
 ·rcases sOk _ _ _ h with⟨_,h⟩ | ⟨_,h⟩<;>cases h
 ·rw[List.getElem?_append]at hc hy2;rw[hl1]at hc;split at hc
  ·rename_i hlt;rw[if_pos hlt]at hy2;obtain⟨y3,hy3,rfl⟩:=hE i c hc;rw[hy2]at hy3;cases hy3
   refine⟨encE_length _ _ _ _ _,fun j q V u hq hV hu=> ?_⟩;rw[encE_leaf,hV,Nat.zero_add]at hq;cases hq;have:src i j=some (r,[(i,j)]):=by simp only[src];rw[if_pos hlt]
   rw[this];exact leafC_fit hf hV hu
  ·rename_i hlt;rw[if_neg hlt]at hy2;obtain⟨y3,hy3,rfl⟩:=hE _ c hc;rw[hy2]at hy3;cases hy3
   refine⟨encE_length _ _ _ _ _,fun j q V u hq hV hu=> ?_⟩;rw[encE_leaf,hV,Nat.zero_add]at hq;cases hq;have:src i j=some (r3,[(i - xs.length,j)]):=by simp only[src];rw[if_neg hlt]
   rw[this];exact leafC_fit hf hV hu
 ·have hrr:Row.Rel (fun _ _=>False) (fun _ _=>False) row row:=leafRow_flat hVr (leafRow_ty hf hV);have hsr:subRow 0 b3 y2 j=some row:=by
   have:=subRow_leaf b3 0 y2 j;rw[Nat.zero_add,hV]at this;rw[this];exact hVr
  have go:∀l0:Loc,l0≠(r,[])->RowRep X.P w g l0 row->RowRep X.P w' g1 l0 row:=fun l0 hl0 h=>h.rel (ml:=fun _ _=>False) (mr:=fun _ _=>False) (fun _ _ h=>h.elim) (fun _ _ h=>h.elim) (hA.hdr l0 hl0) (fun b0 hb0=>⟨hA.own _ _ hb0,hA.keep b0 (hi.inv.ok.own b0 _ hb0).2.1 fun ho2=>by rw[hb0]at ho2;cases ho2;exact hl0 rfl⟩) hrr
  rw[List.getElem?_append]at hy2;split at hy2
  ·rename_i hlt;have:src i j=some (r,[(i,j)]):=by simp only[src];rw[if_pos hlt]
   rw[this];exact go _ (fun e0=>by cases e0) (hsub i j y2 row hy2 hsr)
  ·rename_i hlt;have:src i j=some (r3,[(i - xs.length,j)]):=by simp only[src];rw[if_neg hlt]
   rw[this];exact go _ (fun e0=>by cases e0) (hsub3 _ j y2 row hy2 hsr)
theorem enc_one {w:World}{g:G}{rg:Rg}:∀(t:Ty) (x:t.den) (k:Nat) (q:C) (u:Value),t.nomap=true->(enc rg t x)[k]? =some q->CRep w g q u->u.oneCell' =true:=by
 intro t
 induction t with
 | int kd=>intro x k q u _ h hq;cases k with
  | zero=>simp only[enc]at h;cases h;cases hq;rfl
  | succ k=>simp[enc]at h
 | bool=>intro x k q u _ h hq;cases k with
  | zero=>simp only[enc]at h;cases h;cases hq;rfl
  | succ k=>simp[enc]at h
 | unit=>intro x k q u _ h;simp[enc]at h
 | mp=>intro x k q u hm;simp[Ty.nomap]at hm
 | pr a b iha ihb=>
  intro x k q u hm h hq;simp only[Ty.nomap,Bool.and_eq_true]at hm;simp only[enc,List.getElem?_append]at h;split at h
  ·exact iha _ _ _ _ hm.1 h hq
  ·exact ihb _ _ _ _ hm.2 h hq
 | sl e a iha=>
  intro x k q u _ h hq;cases k with
  | zero=>simp only[enc]at h;cases h;exact ro_one hq
  | succ k=>simp[enc]at h
theorem mapIdx_map {α β:Type}(f:α->β)(xs:List α):(xs.mapIdx fun _ y=>f y)=xs.map f:=List.ext_getElem? fun i=>by rw[List.getElem?_mapIdx,List.getElem?_map]
theorem appShare_ok (hN:d<X.N){r:Nat}{rg:Rg}{v2:At}(h:appShare X.P st d t r rg v2= .ok s)(hi:TInv X D st ρ a w g)(hw:st.wf=true)(hk:st.rok=true){ρ' :Env}(hev:evalB Γ (s.es.map (·.1)) ρ=some ρ')(hx:a.eval x=g.hdr (r,[]))(hy:CRep w g (.ro rg ((v2.get ρ).els rg)) (a.eval y)):
 (⟨some d, .call { callee := .builtin .append, args := #[x, y], argTypes := #[t, t] }, ty, ps, af, gd⟩ : Oper).wp X.P a w (fun a' w' => (g.hdr (r, []) = .slice none 0 0 → RelD D w w') ∧ ∃ g', TInv X D s.st ρ' a' w' g') (fun _ _ _ => False) := by
 unfold appShare at h;split at h
 case h_2=>cases h
 rename_i e e1 b v nl inner he hr;by_cases hc:(innOk rg v (.sl e b) inner=true/\rg≠some r/\e1=e/\b.nomap=true/\(!st.fix.contains r)=true/\v.ty st.ts=some (.sl e b)/\v2.ty st.ts=some (.sl e b)/\b.n=szOf X.P e/\0<b.n/\0<bytesOf X.P e/\zeroN X.P e=some b.n/\st.dirty.isEmpty=true)
 case neg=>rw[if_pos hc]at h;cases h
 rw[if_neg (fun hh=>hh hc)]at h;simp only[Except.ok.injEq]at h;subst h;obtain⟨hinn,hne,rfl,hf,hfix,hvt,hvt2,hbn,h0,hby0,hz,hdty⟩:=hc;have hfix:st.fix.contains r=false:=by simpa using hfix
 have hdty:st.dirty=[]:=by simpa using hdty
 obtain⟨ti,z,hinfo,hzero,hzs⟩:=zeroN_spec hz;have hu:=elem_under he;have hrow:=row_of hi hr;have hvg:=V.list_of (At.ty_get hi.typ hvt);have hvg2:=V.list_of (At.ty_get hi.typ hvt2);have hrow' :RowRep X.P w g (r,[]) (.row false nl e1 (((v.get ρ).as (.sl e1 b)).map (enc rg b))):=by
  unfold innOk at hinn;split at hinn
  ·rename_i rg2;have:=of_decide_eq_true hinn;subst this;have e0:(((v.get ρ).as (.sl e1 b):List b.den).mapIdx fun i y=>encIn (some rg2) r i b y)=((v.get ρ).as (.sl e1 b)).map (enc rg2 b):=by
    exact mapIdx_map _ _
   rw[e0]at hrow;exact hrow
  ·have hv0:=of_decide_eq_true hinn;subst hv0;have e0:(At.get ρ (.nil (.sl e1 b))).as (.sl e1 b)=([]:List b.den):=by { show V.as (.sl e1 b) ⟨.sl e1 b,[]⟩=[];exact V.as_self _ _ }
   rw[e0]at hrow ⊢;exact hrow
 have hels:(v2.get ρ).els rg=List.map (enc rg b) ((v2.get ρ).as (.sl e1 b)):=by
  rw[hvg2];simp only[V.els,V.as_self]
 rw[hels]at hy;generalize hxs:(v.get ρ).as (.sl e1 b)=xs at hrow' hvg;generalize hys:(v2.get ρ).as (.sl e1 b)=ys at hy hvg2;obtain⟨v',hv',rfl⟩:=evalB_one hev;simp only[Ex.den1,Ex.den,hvg,hvg2,V.as_self,Option.bind_eq_some_iff,Option.some.injEq]at hv';obtain⟨zs,hzs',rfl⟩:=hv';obtain⟨fit1,fit2,rfl⟩:=gapp_ok hzs';have hE:∀{xs:List b.den} (i:Nat) (c:List C),(xs.map (enc rg b))[i]? =some c->∃y2,c=enc rg b y2:=fun {xs} i c hc=>by
  rw[List.getElem?_map,Option.map_eq_some_iff]at hc;obtain⟨y2,_,rfl⟩:=hc;exact⟨y2,rfl⟩
 have hsE:∀{xs:List b.den} (i:Nat) (c:List C),(xs.map (enc rg b))[i]? =some c->c.length=szOf X.P e1:=fun {xs} i c hc=>by
  obtain⟨y2,rfl⟩:=hE i c hc;rw[enc_length,hbn]
 have hok:∀{xs:List b.den} (i:Nat) (c:List C) (k:Nat) (q:C),(xs.map (enc rg b))[i]? =some c->c[k]? =some q->C.Ok (fun l=>l≠(r,[])) (fun rg=>rg≠some r) q:=fun {xs} i c k q h1 h2=>by
  obtain⟨y2,rfl⟩:=hE i c h1;exact enc_ok (prr:=fun rg=>rg≠some r) hne b y2 k q h2
 obtain⟨A,cap2,fn,hyv,hcells,hreps⟩:=ro_view hy hsE;obtain⟨v',w',g1,hrun,hA,hrw⟩:=append_core (t:=t) (ty:=ty) (A:=A) (cap2:=cap2) (fn:=fn) hi.inv.ok hrow' hu hinfo hzero (by rw[hzs,hbn]) (by omega) hsE hsE (by simp only[List.length_map,gfit,decide_eq_true_eq];exact⟨fit1,fit2⟩) hby0 hcells (fun i c k q h1 h2=>⟨hreps i c k q h1 h2,by
  obtain⟨y2,rfl⟩:=hE i c h1;exact enc_one b y2 k q _ hf h2 (hreps i _ k q h1 h2)⟩) hok hok
 have hexec:(execOp a.eval ⟨some d,.call { callee:= .builtin .append,args:= #[x,y],argTypes:= #[t,t] },ty,ps,af,gd⟩).run X.P w= .ok (.value v') w' :=by
  simp only[execOp,resolve,invoke,builtin,Sem.run_bind,Sem.run_pure,Result.andThen_ok,List.map_toArray,List.map_cons,List.map_nil,hx,hyv,hrun]
 unfold Oper.wp;rw[hexec];refine⟨fun hnil=>⟨hA.size,fun b0 hb0 _=>hA.new hnil b0 hb0⟩,?_⟩;have hi2:=hi.bindOne hw (v:=⟨.sl e1 b,xs++ys⟩) rfl;have S:Stab (st.bind (.sl e1 b)).nr true r w g w' g1:=⟨fun l h1 h2 h3=>hA.hdr l (fun e0=>by subst e0;rcases h1 with h1 | h1;cases h1;exact h1 rfl),fun rg hne2 _ b0 hb0=>by
  cases rg with
  | none=>
   have hS:g.S b0:=hb0;exact⟨by show g1.S b0;rw[hA.S];exact hS,hA.keep b0 (hi.inv.ok.S b0 hS).1 fun ho=>(hi.inv.ok.own b0 _ ho).2.2 hS⟩
  | some r' =>
   rcases hb0 with hS | ⟨q,ho⟩
   ·exact⟨.inl (by rw[hA.S];exact hS),hA.keep b0 (hi.inv.ok.S b0 hS).1 fun ho=>(hi.inv.ok.own b0 _ ho).2.2 hS⟩
   ·exact⟨.inr ⟨q,hA.own _ _ ho⟩,hA.keep b0 (hi.inv.ok.own b0 _ ho).2.1 fun ho2=>by rw[ho]at ho2;cases ho2;exact hne2 rfl⟩⟩
 have hval:((At.r ⟨st.nx,[]⟩).get (ρ++[⟨.sl e1 b,xs++ys⟩])).as (.sl e1 b)=xs++ys:=by
  have h2:(At.r ⟨st.nx,[]⟩).get (ρ++[⟨.sl e1 b,xs++ys⟩])=⟨.sl e1 b,xs++ys⟩:=ref_get hi.len;rw[h2];exact V.as_self _ _
 have hm:TInv X D { (((st.bind (.sl e1 b)).kill true r).setR r (.list e1 b (.r ⟨st.nx,[]⟩) nl (some rg)))with dirty:=st.dirty } (ρ++[⟨.sl e1 b,xs++ys⟩]) a w' g1:=
  hi2.mut (rok_bind hk _) S hA.ok (.list e1 b (.r ⟨st.nx,[]⟩) nl (some rg)) (fun p row hp=>by
   cases p with
   | nil=>
    rw[rows_nil_list,hval]at hp;have e0:((xs++ys:List b.den).mapIdx fun i y=>encIn (some rg) r i b y)=xs.map (enc rg b)++ys.map (enc rg b):=by
     rw[<-List.map_append];exact mapIdx_map _ _
    rw[e0]at hp;cases hp;exact hrw
   | cons q p=>
    obtain⟨e0,_⟩:=rows_cons_list hp;cases e0) (fun _=>hfix) (fun b0 l hl ho=>⟨hA.own _ _ ho,hA.keep b0 (hi.inv.ok.own b0 _ ho).2.1 fun ho2=>by rw[ho]at ho2;cases ho2;exact hl rfl⟩) st.dirty
   ⟨fun b0 hb0=>absurd hb0 (noD hi hdty b0),fun r0 b0 q hq=>by rw[hdty]at hq;cases hq⟩
 exact⟨g1,TInv.put hm hN (sv:= .c (.h r)) (v:=v') (.hd _ _ hA.top.symm)⟩
theorem stepAppNest_ok (hN:d<X.N){sx sy:SV}(hsx:st.val x= .ok sx)(hsy:st.val y= .ok sy)(h:stepAppNest X.P st d t sx sy= .ok s)(hnr:nr=true->sx.isNil=true):
 WStep X D Γ nr st ⟨some d,.call { callee:= .builtin .append,args:= #[x,y],argTypes:= #[t,t] },ty,ps,af,gd⟩ s:=by
 intro ρ ρ' a w g hi hw hk hev;have hxr:=val_rep hi hsx;have hyr:=val_rep hi hsy;unfold stepAppNest at h;split at h
 ·rename_i r3;have hy:a.eval y=g.hdr (r3,[]):=by
   have:CRep w g (.hd (r3,[])) (a.eval y):=by simpa[SV.enc,SC.enc,PRep]using hyr
   exact hd_eq this
  split at h
  ·rename_i e he;split at h
   ·rename_i b hb;by_cases hc:((adoptNew st e b).wf && (adoptNew st e b).rok)=true
    ·rw[if_neg (fun hh=>by rw[hc]at hh;cases hh)]at h;simp only[Bool.and_eq_true]at hc;obtain⟨g',hi',q1,q2,_⟩:=hi.adoptNew (e:=e) (b:=b) (nl:=true) hk;have hx:a.eval x= .slice none 0 0:=by
      have hxr:CRep w g .nil (a.eval x):=by simpa[SV.enc,SC.enc,PRep]using hxr
      generalize a.eval x=u at hxr;cases hxr;rfl
     have hr3:r3≠st.nr:=fun e0=>by
      unfold appNest at h;split at h
      ·subst e0;simp only at h;split at h
       ·cases h
       ·rename_i hcc;have hcc:=Decidable.of_not_not hcc;obtain⟨_,_,_,_,_,_,_,_,_,_,_,_,hfr,_⟩:=hcc;have:=(freed_spec hfr).2.1;simp at this
      ·cases h
     refine Oper.wp_mono (fun a' w' q=>⟨fun _=>q.1 q1,q.2⟩) (appNest_ok (st:=adoptNew st e b) hN h hi' hc.1 hc.2 hev (hx.trans q1.symm) (hy.trans (q2 (r3,[]) hr3).symm))
    ·rw[if_pos (by rw[Bool.eq_false_iff.2 hc];rfl)]at h;cases h
   ·cases h
  ·cases h
 ·rename_i r r3;have hx:a.eval x=g.hdr (r,[]):=by
   have:CRep w g (.hd (r,[])) (a.eval x):=by simpa[SV.enc,SC.enc,PRep]using hxr
   exact hd_eq this
  have hy:a.eval y=g.hdr (r3,[]):=by
   have:CRep w g (.hd (r3,[])) (a.eval y):=by simpa[SV.enc,SC.enc,PRep]using hyr
   exact hd_eq this
  refine Oper.wp_mono (fun a' w' q=>⟨fun hn=> ?_,q.2⟩) (appNest_ok hN h hi hw hk hev hx hy);have:=hnr hn;simp[SV.isNil]at this
 ·rename_i r r1 lo hi' v2;have hx:a.eval x=g.hdr (r,[]):=by
   have:CRep w g (.hd (r,[])) (a.eval x):=by simpa[SV.enc,SC.enc,PRep]using hxr
   exact hd_eq this
  have hy:CRep w g (.ro (some r1) ((v2.get ρ).els (some r1))) (a.eval y):=by
   have h1:CRep w g (SC.enc ρ (.hs r1 lo hi' v2)) (a.eval y):=by simpa[SV.enc,PRep]using hyr
   simp only[SC.enc]at h1;exact both_r h1
  refine Oper.wp_mono (fun a' w' q=>⟨fun hn=> ?_,q.2⟩) (appShare_ok hN h hi hw hk hev hx hy);have:=hnr hn;simp[SV.isNil]at this
 ·rename_i r v2;have hx:a.eval x=g.hdr (r,[]):=by
   have:CRep w g (.hd (r,[])) (a.eval x):=by simpa[SV.enc,SC.enc,PRep]using hxr
   exact hd_eq this
  have hy:CRep w g (.ro none ((v2.get ρ).els none)) (a.eval y):=by simpa[SV.enc,SC.enc,PRep]using hyr
  refine Oper.wp_mono (fun a' w' q=>⟨fun hn=> ?_,q.2⟩) (appShare_ok hN h hi hw hk hev hx hy);have:=hnr hn;simp[SV.isNil]at this
 ·rename_i v2;split at h
  ·rename_i e he;split at h
   ·rename_i b hb;by_cases hc:((adoptNew st e b).wf && (adoptNew st e b).rok)=true
    ·rw[if_neg (fun hh=>by rw[hc]at hh;cases hh)]at h;simp only[Bool.and_eq_true]at hc;obtain⟨g',hi',q1,q2,q3⟩:=hi.adoptNew (e:=e) (b:=b) (nl:=true) hk;have hx:a.eval x= .slice none 0 0:=by
      have hxr:CRep w g .nil (a.eval x):=by simpa[SV.enc,SC.enc,PRep]using hxr
      generalize a.eval x=u at hxr;cases hxr;rfl
     have hyr' :=val_rep hi' (show(adoptNew st e b).val y= .ok (.c (.s none v2))by rw[<-hsy];cases y<;>rfl);have hy:CRep w g' (.ro none ((v2.get ρ).els none)) (a.eval y):=by simpa[SV.enc,SC.enc,PRep]using hyr'
     refine Oper.wp_mono (fun a' w' q=>⟨fun _=>q.1 q1,q.2⟩) (appShare_ok (st:=adoptNew st e b) hN h hi' hc.1 hc.2 hev (hx.trans q1.symm) hy)
    ·rw[if_pos (by rw[Bool.eq_false_iff.2 hc];rfl)]at h;cases h
   ·cases h
  ·cases h
 ·cases h
theorem storeShare_ok {r:Nat}{ex e:TypeId}{i:At}{k:Nat}{b:Ty}{v:At}{nl:Bool}(hx:st.val x= .ok (.ad r ex i k))(hr:st.rk r= .list e b v nl (some none))(h:storeShare X.P st t y r ex e i k b v nl= .ok s):WStep X D Γ false st ⟨none,.store t x y,ty,ps,af,gd⟩ s:=by
 unfold storeShare at h;obtain⟨vy,hy,h⟩:=ok_bind h;obtain⟨cs,hcs,h⟩:=ok_bind h;obtain⟨xs,hxs,h⟩:=ok_bind h;by_cases hc:(ex=e/\k=0/\b.nomap=true/\v.ty st.ts=some (.sl e b)/\i.lt st.ts.length=true/\b.n=szOf X.P e/\b.n=szOf X.P t/\0<b.n/\st.dirty.isEmpty=true)
 case neg=>rw[if_pos hc]at h;cases h
 rw[if_neg (fun hh=>hh hc)]at h;simp only[Except.ok.injEq]at h;subst h;obtain⟨rfl,rfl,hnm,hvt,hil,hbn,hbt,h0,hdty⟩:=hc;have hd0:st.dirty=[]:=by simpa using hdty
 intro ρ ρ' a w g hi hw hk hev;have hrow:=row_of hi hr;obtain⟨q1,q2⟩:=cells_rep hi hy hcs;obtain⟨t1,t2,t3,t4⟩:=takeS_rep hi hxs;have hvg:=V.list_of (At.ty_get hi.typ hvt);have e0:(((v.get ρ).as (.sl ex b):List b.den).mapIdx fun i y=>encIn (some none) r i b y)=((v.get ρ).as (.sl ex b)).map (enc none b):=mapIdx_map _ _;rw[e0]at hrow
 clear e0
 generalize hzs:(v.get ρ).as (.sl ex b)=zs at hrow hvg;obtain⟨v1,hv1,hev⟩:=evalB_cons hev;obtain⟨v2,hv2,hev⟩:=evalB_cons hev;obtain⟨v3,hv3,hev⟩:=evalB_cons hev;have:=evalB_nil hev;subst this;simp only[Ex.den1,Ex.den,hvg,Option.bind_eq_some_iff,Option.some.injEq]at hv1;obtain⟨z,hz,rfl⟩:=hv1;obtain⟨z0,z1,z2⟩:=gget_ok hz;have hnx:st.nx=ρ.length:=by rw[hi.len];rfl
 have hmap:xs.map (At.get (ρ++[⟨b,z⟩]))=xs.map (At.get ρ):=List.map_congr_left fun y hy=>At.get_app (by rw[hi.len];exact t3 y hy)
 simp only[Ex.den1,Ex.den,hmap,Option.some.injEq]at hv2;generalize hz2:(mkv b (xs.map (At.get ρ))).1=zn at hv2 t4;subst hv2;have hva:At.get ((ρ++[⟨b,z⟩])++[⟨b,zn⟩]) v=⟨.sl ex b,zs⟩:=by
  rw[List.append_assoc,At.get_app (by rw[hi.len];exact At.ty_lt hvt)];exact hvg
 have hia:At.get ((ρ++[⟨b,z⟩])++[⟨b,zn⟩]) i=i.get ρ:=by
  rw[List.append_assoc,At.get_app (by rw[hi.len];exact hil)]
 have hna:At.get ((ρ++[⟨b,z⟩])++[⟨b,zn⟩]) (.r ⟨st.nx+1,[]⟩)=⟨b,zn⟩:=by
  simp only[At.get,Ref.get,V.proj,hnx];simp[List.getD]
 simp only[Ex.den1,Ex.den,hva,hia,hna,V.as_self,Option.some.injEq]at hv3;subst hv3;have hi3:TInv X D (((st.bind b).bind b).bind (.sl ex b)) (((ρ++[⟨b,z⟩])++[⟨b,zn⟩])++[⟨.sl ex b,gset zs (i.get ρ).int zn⟩]) a w g:=by
  have:=hi.grow hw [⟨b,z⟩,⟨b,zn⟩,⟨.sl ex b,gset zs (i.get ρ).int zn⟩];simpa[St.bind]using this
 obtain⟨b',base',hd1,hxe⟩:=val_rep hi hx;generalize hN:(i.get ρ).int.toNat=N at*;generalize hels:(zs.map (enc none b))=els at hrow;have hget:els[N]? =some (enc none b z):=by rw[<-hels,List.getElem?_map,z2];rfl
 cases hrow with
 | nil=>simp at hget
 | zero=>simp at hget
 | full _ _ _ _ bb base n cap vs f hrf=>
  have hbb:b' =bb/\base' =base:=by
   have hd:=hrf.hd;rw[hd]at hd1;rcases hd1 with⟨_,_,h1⟩ | h1<;>simp[hdrOf]at h1
   exact⟨h1.1.1.symm,h1.1.2.symm⟩
  obtain⟨rfl,rfl⟩:=hbb;have hone:∀u∈(a.eval y).cells.toList,u.oneCell' =true:=fun u hu=>by
   obtain⟨j,hj⟩:=List.getElem?_of_mem hu;have hjl:j<cs.length:=by rw[<-q1];have:=(List.getElem?_eq_some_iff.1 hj).1;simpa using this
   obtain⟨u',hu',_,h1⟩:=q2 j _ (List.getElem?_eq_getElem (by rw[encL_map,List.length_map];exact hjl));have:(a.eval y).cells[j]? =some u:=by simpa using hj
   rw[this]at hu';cases hu';exact h1
  have hoffle:base' +(N*szOf X.P ex+0)+szOf X.P t<=vs.size:=by
   have h1:=hrf.len;have h2:=hrf.hcap;have h3:=hrf.fit;have h4:=(List.getElem?_eq_some_iff.1 hget).1;have:(N+1)*szOf X.P ex<=cap*szOf X.P ex:=Nat.mul_le_mul_right _ (by omega);rw[Nat.add_mul,Nat.one_mul]at this;omega
  have hrun:=run_storeVar (P:=X.P) (w:=w) (t:=t) (v:=a.eval y) (b:=b') (off:=base' +(N*szOf X.P ex+0)) (cs:=vs) (e:=ex) (by omega) (by rw[q1,t2,hbt]) hone hrf.heap hoffle;have hxe2:a.eval x= .pointer (some ⟨b',base' +(N*szOf X.P ex+0),none⟩):=by rw[hxe];unfold At.nat;rw[hN]
  unfold Oper.wp;simp only[execOp,hxe2,Instr.storeAt,Instr.sureAddr,Sem.run_bind,Sem.run_pure,Result.andThen_ok,hrun,Oper.upon];refine⟨fun e0=>(by cases e0),?_⟩;have hob:=hi.inv.ok.own b' _ hrf.own;have hvl:(a.eval y).cells.toList.length=b.n:=by rw[<-t2];simpa using q1
  generalize hw' :w.setRow b' (vs.toList.take (base' +(N*szOf X.P ex+0))++(a.eval y).cells.toList++vs.toList.drop (base' +(N*szOf X.P ex+0)+(a.eval y).cells.toList.length)).toArray=w';have S:Stab (((st.bind b).bind b).bind (.sl ex b)).nr false r w g w' g:=stab_write hrf.own hob.2.2 fun b2 hb2=>by rw[<-hw'];exact setRow_other w b' b2 _ hb2
  refine⟨g,?_⟩;have hzl:els.length=zs.length:=by rw[<-hels];simp
  have hNl:N<zs.length:=by rw[<-hzl];exact(List.getElem?_eq_some_iff.1 hget).1
  have keep:∀(y2:b.den) (k' :Nat) (q:C) (u:Value),(enc none b y2)[k']? =some q->CRep w g q u->CRep w' g q u:=fun y2 k' q u hq hu=>
   hu.rel (ml:=fun _ _=>False) (mr:=fun a b=>a=none/\b=none) (fun _ _ h=>h.elim) (fun rg rg' ⟨h1,h2⟩ k hk=>by subst h1 h2;exact S.reg none (fun h=>by cases h) (fun r h=>by cases h) k hk) (enc_rel b (.inr ⟨rfl,rfl⟩) y2 k' q q hq hq)
  have hkn:TInv X D { (((((st.bind b).bind b).bind (.sl ex b)).kill false r).setR r (.list ex b (.r ⟨st.nx+2,[]⟩) nl (some none)))with dirty:=st.dirty } (((ρ++[⟨b,z⟩])++[⟨b,zn⟩])++[⟨.sl ex b,gset zs (i.get ρ).int zn⟩]) a w' g:=by
   refine hi3.mut (rok_bind (rok_bind (rok_bind hk _) _) _) S (by rw[<-hw'];exact gok_write hi.inv.ok hrf.own _) _ (fun p row hp=> ?_) (fun h=>by cases h) (fun b2 l hl hb2=>⟨hb2,?_⟩) st.dirty hi.dirt
   ·have hv3:(At.get (((ρ++[⟨b,z⟩])++[⟨b,zn⟩])++[⟨.sl ex b,gset zs (i.get ρ).int zn⟩]) (.r ⟨st.nx+2,[]⟩)).as (.sl ex b)=gset zs (i.get ρ).int zn:=by
     have:At.get (((ρ++[⟨b,z⟩])++[⟨b,zn⟩])++[⟨.sl ex b,gset zs (i.get ρ).int zn⟩]) (.r ⟨st.nx+2,[]⟩)=⟨.sl ex b,gset zs (i.get ρ).int zn⟩:=by
      simp only[At.get,Ref.get,V.proj,hnx];simp[List.getD]
     rw[this];exact V.as_self _ _
    have hset:gset zs (i.get ρ).int zn=zs.set N zn:=by unfold gset;rw[hN]
    cases p with
    | cons q p=>
     obtain⟨e1,_⟩:=rows_cons_list hp;cases e1
    | nil=>
     rw[rows_nil_list,hv3,hset]at hp;have e0:((zs.set N zn:List b.den).mapIdx fun i y=>encIn (some none) r i b y)=(zs.set N zn).map (enc none b):=mapIdx_map _ _;rw[e0]at hp;simp only[Option.some.injEq]at hp;subst hp;rw[<-hw'];have hget' :∀(i' :Nat) (c' :List C),((zs.set N zn).map (enc none b))[i']? =some c'→(i' =N/\c' =enc none b zn)\/(i'≠N/\els[i']? =some c'∧∃y',c' =enc none b y'):=fun i' c' hc' =>by
      rw[List.getElem?_map,Option.map_eq_some_iff]at hc';obtain⟨y',hy',rfl⟩:=hc';rcases set_get hNl hy' with⟨rfl,rfl⟩ | ⟨hne,hy'⟩
      ·exact .inl ⟨rfl,rfl⟩
      ·exact .inr ⟨hne,by rw[<-hels,List.getElem?_map,hy'];rfl,y',rfl⟩
     refine row_write hrf hget (by rw[hvl];omega) rfl hrf.own (by rw[hzl];simp) (fun i' c' hc' => ?_) (fun i' c' k' q hc' hq=> ?_)
     ·rcases hget' i' c' hc' with⟨rfl,rfl⟩ | ⟨_,_,y',rfl⟩
      ·rw[enc_length,hbn]
      ·rw[enc_length,hbn]
     ·rw[hw'];rcases hget' i' c' hc' with⟨rfl,rfl⟩ | ⟨hne,hc2,y',rfl⟩
      ·have hkb:k' <b.n:=by rw[<-enc_length none b zn];exact(List.getElem?_eq_some_iff.1 hq).1
       left
       obtain⟨c,g2,g4⟩:=t4 k' q hq;obtain⟨u,hu,hr1,_⟩:=q2 k' (c.enc ρ) (by rw[encL_map,List.getElem?_map,g2];rfl);exact⟨rfl,Nat.zero_le _,by omega,u,by simpa using hu,keep zn k' q u hq (g4 w g u hr1)⟩
      ·right
       exact⟨fun h=>hne h.1,⟨_,q,hc2,hq⟩,keep y' k' q _ hq (hrf.rep _ _ k' q hc2 hq)⟩
   ·rw[<-hw'];refine setRow_other w b' b2 _ fun e0=> ?_
    subst e0;rw[hrf.own]at hb2;cases hb2;exact hl rfl
  exact hkn
theorem store'_ok (h:stepStore' X.P st t x y= .ok s):WStep X D Γ false st ⟨none,.store t x y,ty,ps,af,gd⟩ s:=by
 unfold stepStore' at h;split at h
 ·rename_i r ex i k hx;split at h
  ·rename_i e a v nl hr;exact storeShare_ok hx hr h
  ·exact store_ok h
 ·exact store_ok h
end
end Go.Pu
/-
  Own work. Calls, from the operation: nil slices and inner slices handed over.
-/
namespace Go.Pu
open Go Go.RowKit
set_option linter.unusedVariables false
set_option linter.unusedSectionVars false
section
variable {X:Ctx} {D:Nat->Prop} {Γ:List FE} {ss:List Sig} {st:St} {ρ:Env} {a:Act} {w w' :World} {g g' :G}
variable {d:Nat} {x y:Operand} {t t' ty:TypeId} {ps:String} {af:Array Edge} {gd:Option (Nat×Bool)} {s:Step} {nr:Bool}
theorem putBack_ok (hi:TInv X D st ρ a w g){r r2:Nat}{es:List (Ex×Ty)}{st' :St}(h:st.putBack r r2= .ok (es,st')){ρ' :Env}(hev:evalB Γ (es.map (·.1)) ρ=some ρ')
 (hh:∀e b v nl i k,st.rk r= .listH e b v nl i k->g.hdr (r,[(i.nat ρ,k)])=g.hdr (r2,[])):∃g',TInv X D st' ρ' a w g' :=by
 unfold St.putBack at h;split at h
 case h_2=>cases h
 rename_i e b v nl i k e2 b2 x nl2 hr hr2;split at h
 case h_2=>cases h
 rename_i e' b' hle;simp only at h;generalize hst5:(((((st.bind b).bind b).bind (.sl e b)).kill false r).setR r .dead).strike [r2]=st5 at h;by_cases hc:(e2=e'∧b2=b'∧b'.flat=true/\x.ty st.ts=some (.sl e' b')/\b.flat1=true/\v.ty st.ts=some (.sl e b)/\i.lt st.ts.length=true/\st.wf=true/\st.rok=true/\st.dirty.isEmpty=true/\(!st.fix.contains r2)=true/\(!Nat.beq r2 r)=true/\st5.freed r [r2]=true/\st5.nr=st.nr)
 case neg=>rw[if_pos hc]at h;cases h
 rw[if_neg (fun hh=>hh hc)]at h;simp only[Except.ok.injEq,Prod.mk.injEq]at h;obtain⟨rfl,rfl⟩:=h;obtain⟨rfl,rfl,hf2,hxt,hf,hvt,hil,hw,hk,hdty,hfix2,hne,hfr,hnr5⟩:=hc;have hhd:=hh _ _ _ _ _ _ hr;have hne:r2≠r:=fun e0=>by subst e0;simp at hne
 have hfix2:st.fix.contains r2=false:=by simpa using hfix2
 have hdty:st.dirty=[]:=by simpa using hdty
 have hkn:k+1<=b.n:=by
  have:=(List.getElem?_eq_some_iff.1 hle).1;rw[leaves_length]at this;omega
 have hct:b.cellTy k [SC.h r2].length=[.sl e2 b2]:=by
  unfold Ty.cellTy;apply List.ext_getElem?;intro j;rw[List.getElem?_take,List.getElem?_drop];cases j with
  | zero=>simpa using hle
  | succ j=>simp
 have hl:st.takeN r (b.cellTy k [SC.h r2].length) [SC.h r2]= .ok [(x,some r2)]:=by
  rw[hct];have hb:Nat.beq r2 r=false:=beqN hne;simp only[St.takeN,hr2,hf2,hxt,hb,hfix2,Bool.not_false,and_self,if_true];rfl
 have hvg:=V.list_of (At.ty_get hi.typ hvt);have hrow:RowRep X.P w g (r,[]) (.row false nl e (((v.get ρ).as (.sl e b)).mapIdx fun i y=>encE r i 0 b y)):=hi.inv.row (r,[]) _ (by simp only[hr];rfl);have hrowS:∀(i2 j:Nat) (y2:b.den) (row:Row),((v.get ρ).as (.sl e b):List b.den)[i2]? =some y2->subRow 0 b y2 j=some row->¬(i2=i.nat ρ/\j=k)->RowRep X.P w g (r,[(i2,j)]) row:=fun i2 j y2 row h1 h2 h3=>by
  refine hi.inv.row (r,[(i2,j)]) row ?_
  simp only[hr,RK.rows,h1];have hb:(Nat.beq i2 (i.nat ρ) && Nat.beq j k)=false:=by
   cases hb:(Nat.beq i2 (i.nat ρ) && Nat.beq j k)with
   | false=>rfl
   | true=>
    simp only[Bool.and_eq_true]at hb;exact absurd ⟨Nat.eq_of_beq_eq_true hb.1,Nat.eq_of_beq_eq_true hb.2⟩ h3
  rw[hb];exact h2
 have hleaf2:∀row,leafRow (x.get ρ)=some row->RowRep X.P w g (r2,[]) row:=fun row h=>list_leaf hi hr2 hf2 hxt h
 generalize hxs:(v.get ρ).as (.sl e b)=zs at hrow hrowS hvg;obtain⟨v1,hv1,hev⟩:=evalB_cons hev;obtain⟨v2,hv2,hev⟩:=evalB_cons hev;obtain⟨v3,hv3,hev⟩:=evalB_cons hev;have:=evalB_nil hev;subst this;simp only[Ex.den1,Ex.den,hvg,Option.bind_eq_some_iff,Option.some.injEq]at hv1;obtain⟨z,hz,rfl⟩:=hv1;obtain⟨z0,z1,z2⟩:=gget_ok hz;have hnx:st.nx=ρ.length:=by rw[hi.len];rfl
 have hg1:Ref.get (ρ++[⟨b,z⟩]) ⟨st.nx,[]⟩=⟨b,z⟩:=by
  have:(st.ref).get (ρ++[⟨b,z⟩])=⟨b,z⟩:=ref_get hi.len;exact this
 have hleafs:=leafs_splice hi (ρ1:=[⟨b,z⟩]) hg1 hl hkn;simp only[Ex.den1,Ex.den,Option.some.injEq]at hv2;have e1:([(x,some r2)]:List (At×Option Nat)).map (·.1)=[x]:=rfl;rw[e1]at hleafs;generalize hz2:(mkv b ((splice (oldAtoms st.nx b) k [x]).map (At.get (ρ++[⟨b,z⟩])))).1=zn at hv2 hleafs;subst hv2;have hva:At.get ((ρ++[⟨b,z⟩])++[⟨b,zn⟩]) v=⟨.sl e b,zs⟩:=by
  rw[List.append_assoc,At.get_app (by rw[hi.len];exact At.ty_lt hvt)];exact hvg
 have hia:At.get ((ρ++[⟨b,z⟩])++[⟨b,zn⟩]) i=i.get ρ:=by
  rw[List.append_assoc,At.get_app (by rw[hi.len];exact hil)]
 have hna:At.get ((ρ++[⟨b,z⟩])++[⟨b,zn⟩]) (.r ⟨st.nx+1,[]⟩)=⟨b,zn⟩:=by
  simp only[At.get,Ref.get,V.proj,hnx];simp[List.getD]
 simp only[Ex.den1,Ex.den,hva,hia,hna,V.as_self,Option.some.injEq]at hv3;subst hv3;have hi3:TInv X D (((st.bind b).bind b).bind (.sl e b)) (((ρ++[⟨b,z⟩])++[⟨b,zn⟩])++[⟨.sl e b,gset zs (i.get ρ).int zn⟩]) a w g:=by
  have:=hi.grow hw [⟨b,z⟩,⟨b,zn⟩,⟨.sl e b,gset zs (i.get ρ).int zn⟩];simpa[St.bind]using this
 have hset:gset zs (i.get ρ).int zn=zs.set (i.get ρ).int.toNat zn:=rfl;have hv3g:(At.get (((ρ++[⟨b,z⟩])++[⟨b,zn⟩])++[⟨.sl e b,gset zs (i.get ρ).int zn⟩]) (.r ⟨st.nx+2,[]⟩)).as (.sl e b)=gset zs (i.get ρ).int zn:=by
  have:At.get (((ρ++[⟨b,z⟩])++[⟨b,zn⟩])++[⟨.sl e b,gset zs (i.get ρ).int zn⟩]) (.r ⟨st.nx+2,[]⟩)=⟨.sl e b,gset zs (i.get ρ).int zn⟩:=by
   simp only[At.get,Ref.get,V.proj,hnx];simp[List.getD]
  rw[this];exact V.as_self _ _
 rw[hset]at hv3g hi3 ⊢;have hNe:i.nat ρ=(i.get ρ).int.toNat:=rfl;rw[hNe]at hrowS hhd;generalize (i.get ρ).int.toNat=N at*;have hNl:N<zs.length:=(List.getElem?_eq_some_iff.1 z2).1;have h5:=strike_ok [r2] (hi3.killDead (rok_bind (rok_bind (rok_bind hk _) _) _) (all:=false) r (fun e=>by cases e));rw[hst5]at h5;have hd5:st5.dirty=[]:=by
  rw[<-hst5];have h1:((((((st.bind b).bind b).bind (.sl e b)).kill false r).setR r .dead).strike [r2]).dirty=st.dirty:=killR_dirty _ _;rw[h1];exact hdty
 obtain⟨f1,f2,f3,f4,f5,f6,f7⟩:=freed_spec hfr;have hgetE:∀(i2:Nat) (c:List C),(zs.mapIdx fun i y=>encE r i 0 b y)[i2]? =some c->∃y2,zs[i2]? =some y2/\c=encE r i2 0 b y2:=fun i2 c hc=>by
  rw[List.getElem?_mapIdx,Option.map_eq_some_iff]at hc;obtain⟨y2,hy2,rfl⟩:=hc;exact⟨y2,hy2,rfl⟩
 obtain⟨V0,hV0,hV0t⟩:∃V,(leafs b z)[k]? =some V/\V.t= .sl e2 b2:=by
  have hlt:k<(leafs b z).length:=by rw[leafs_length];omega
  refine⟨_,List.getElem?_eq_getElem hlt,?_⟩;have h1:=leafs_ty b z;have h2:((leafs b z).map V.t)[k]? =some (.sl e2 b2):=by rw[h1];exact hle
  rw[List.getElem?_map,List.getElem?_eq_getElem hlt]at h2;simpa using h2
 have hxg:(x.get ρ).t= .sl e2 b2:=At.ty_get hi.typ hxt;have hlk:∀(j:Nat) (V:V),(leafs b zn)[j]? =some V->(j=k/\V=x.get ρ)\/(j≠k/\(leafs b z)[j]? =some V):=fun j V hV=>by
  rw[hleafs,splice_get _ _ _ (by rw[leafs_length];simpa using hkn)]at hV;by_cases hj:j=k
  ·subst hj;rw[if_pos (by simp)]at hV;simp at hV;exact .inl ⟨rfl,hV.symm⟩
  ·rw[if_neg (by simp;omega)]at hV;exact .inr ⟨hj,hV⟩
 let src:Nat->Nat->Option Loc:=fun i2 j=>if i2=N/\j=k then some (r2,[])else some (r,[(i2,j)])
 have sIn:src N k=some (r2,[]):=by simp[src]
 have sOut:∀i2 j,¬(i2=N/\j=k)->src i2 j=some (r,[(i2,j)]):=fun i2 j h=>by simp only[src];rw[if_neg h]
 have sOk:∀i2 j l0,src i2 j=some l0->(i2=N/\j=k/\l0=(r2,[]))\/(¬(i2=N/\j=k)/\l0=(r,[(i2,j)])):=fun i2 j l0 h=>by
  simp only[src]at h;split at h
  ·rename_i hh;cases h;exact .inl ⟨hh.1,hh.2,rfl⟩
  ·rename_i hh;cases h;exact .inr ⟨hh,rfl⟩
 refine Exists.elim (h5.regroup (R0:=r) (e:=e) (b:=b) (v:= .r ⟨st.nx+2,[]⟩) (nl:=nl) (xs:=zs.set N zn) (els:=zs.mapIdx fun i y=>encE r i 0 b y) src hv3g hf f5 f6 (fun r3 hr3=> ?_) (fun i1 j1 i2 j2 l0 h1 h2=> ?_) (fun i2 j h=> ?_) (.inl hd5) (fun r' e0=>by rw[hd5]at e0;cases e0) hrow (by simp) (fun i2 c y2 hc hy2=> ?_) (fun i2 y2 j V row hy2 hV hVr=> ?_)) (fun g' hg' =>⟨g',hg'.1⟩)
 ·obtain⟨p1,p2⟩:=f7 r3 hr3;refine⟨p1,fun i2 j p h=> ?_⟩;rcases sOk _ _ _ h with⟨_,_,h⟩ | ⟨_,h⟩<;>cases h
  ·exact p2 (by simp)
  ·exact p1 rfl
 ·rcases sOk _ _ _ h1 with⟨a1,a2,a3⟩ | ⟨a1,a2⟩<;>rcases sOk _ _ _ h2 with⟨b1,b2,b3⟩ | ⟨b1,b2⟩
  ·rw[a1,a2,b1,b2]
  ·rw[a3]at b2;cases b2
  ·rw[a2]at b3;cases b3
  ·rw[a2]at b2;cases b2;rfl
 ·rcases sOk _ _ _ h with⟨_,_,h⟩ | ⟨_,h⟩<;>cases h
  exact hne rfl
 ·obtain⟨y3,hy3,rfl⟩:=hgetE i2 c hc;refine⟨encE_length _ _ _ _ _,fun j q V u hq hV hu=> ?_⟩;rw[encE_leaf,Nat.zero_add,Option.map_eq_some_iff]at hq;obtain⟨V3,hV3,rfl⟩:=hq;by_cases hiN:i2=N
  ·subst hiN;rw[List.getElem?_set_self hNl]at hy2;cases hy2;rw[z2]at hy3;cases hy3
   rcases hlk j V hV with⟨rfl,rfl⟩ | ⟨hj,hVj⟩
   ·rw[sIn];rw[hV0]at hV3;cases hV3
    obtain⟨ys,rfl⟩:=sl_of hV0t;simp only[leafC]at hu;exact⟨fun _=>(hd_eq hu).trans hhd,fun hs=>by rw[hxg]at hs;cases hs⟩
   ·rw[hV3]at hVj;cases hVj
    rw[sOut _ _ (fun h=>hj h.2)];exact leafC_fit hf hV3 hu
  ·rw[List.getElem?_set_ne (Ne.symm hiN)]at hy2;rw[hy2]at hy3;cases hy3
   rw[hV]at hV3;cases hV3
   rw[sOut _ _ (fun h=>hiN h.1)];exact leafC_fit hf hV hu
 ·by_cases hin:i2=N/\j=k
  ·obtain⟨rfl,rfl⟩:=hin;rw[List.getElem?_set_self hNl]at hy2;cases hy2;rcases hlk j V hV with⟨_,rfl⟩ | ⟨hj,_⟩
   ·rw[sIn];exact hleaf2 row hVr
   ·exact absurd rfl hj
  ·rw[sOut _ _ hin];have key:∃y3,zs[i2]? =some y3/\(leafs b y3)[j]? =some V:=by
    by_cases hiN:i2=N
    ·subst hiN;rw[List.getElem?_set_self hNl]at hy2;cases hy2;rcases hlk j V hV with⟨rfl,_⟩ | ⟨_,hVj⟩
     ·exact absurd ⟨(by first | rfl | trivial),(by first | rfl | trivial)⟩ hin
     ·exact⟨z,z2,hVj⟩
    ·rw[List.getElem?_set_ne (Ne.symm hiN)]at hy2;exact⟨y2,hy2,hV⟩
   obtain⟨y3,hy3,hV3⟩:=key;refine hrowS i2 j y3 row hy3 ?_ hin;have:=subRow_leaf b 0 y3 j;rw[Nat.zero_add,hV3]at this;rw[this];exact hVr
theorem call_enter {sg:Sig}{fn:sg.p.den->Option sg.r.den}(hsp:CallSpec X.P sg fn){args:Array Operand}{ats:Array TypeId}{f:FuncId}{caps:List SC}(hf:sg.f=f)(hi:TInv X D st ρ a w g)(hx:st.val x= .ok (.c (.fn f caps))):
 ∃cv:Array Value,cv.size=caps.length/\(∀(k:Nat) (q:C),(encL ρ caps)[k]? =some q->CRep w g q (cv.getD k undef))/\
  (execOp a.eval ⟨some d,.call { callee:= .value x,args:=args,argTypes:=ats },ty,ps,af,gd⟩).run X.P w= .ok (.enter f (args.map a.eval++cv)) w:=by
 obtain⟨⟨F,hF,hname,hbody⟩,_⟩:=hsp;have hxr:CRep w g (.fn f (encL ρ caps)) (a.eval x):=by simpa[SV.enc,SC.enc,PRep]using val_rep hi hx
 obtain⟨cv,hcv,hcvl,hcvr⟩:∃cv:Array Value,a.eval x= .func (.func f) #[] cv/\cv.size=caps.length/\∀(k:Nat) (q:C),(encL ρ caps)[k]? =some q->CRep w g q (cv.getD k undef):=by
  generalize a.eval x=u at hxr;cases hxr with
  | fn _ _ vs hs hrep=>exact⟨vs,rfl,by rw[hs,encL_map,List.length_map],hrep⟩
 have hn' : ¬ F.name = "runtime.NumGoroutine" := by simpa using hname
 have hb' :¬F.body=none:=fun e=>by rw[e]at hbody;cases hbody
 rw[hf]at hF;exact⟨cv,hcvl,hcvr,by simp[execOp,resolve,Deferred.ofValue,hcv,invoke,callFunc,hF,hn',hb']⟩
theorem args_rep (hi:TInv X D st ρ a w g){args:Array Operand}{us:List SV}(hus:args.toList.mapM st.val= .ok us){caps:List SC}{cv:Array Value}(hcvr:∀(k:Nat) (q:C),(encL ρ caps)[k]? =some q->CRep w g q (cv.getD k undef)):
 ∀(i:Nat) (sv:SV),(us++caps.map SV.c)[i]? =some sv->PRep X.P w g (sv.enc ρ) ((args.map a.eval++cv).getD i undef):=fun i sv hsv=>by
 obtain⟨m1,m2⟩:=mapM_ok _ _ hus;have m1' :us.length=(args.map a.eval).size:=by simp[m1]
 rw[List.getElem?_append]at hsv;rw[Array.getD_eq_getD_getElem?,Array.getElem?_append,<-m1'];split at hsv
 ·rename_i hlt;rw[if_pos hlt];obtain⟨o,ho,hov⟩:=m2 i sv hsv;have:(args.map a.eval)[i]? =some (a.eval o):=by rw[Array.getElem?_map,<-Array.getElem?_toList,ho];rfl
  rw[this];exact val_rep hi hov
 ·rename_i hge;rw[if_neg hge];rw[List.getElem?_map,Option.map_eq_some_iff]at hsv;obtain⟨c,hc,rfl⟩:=hsv;have:=hcvr (i - us.length) (c.enc ρ) (by rw[encL_map,List.getElem?_map,hc];rfl);rw[Array.getD_eq_getD_getElem?]at this;exact this
theorem args_head {P:Program}{us:List SV}{v:SV}{argv:Array Value}(h:∀(i:Nat) (sv:SV),us[i]? =some sv->PRep P w g (sv.enc ρ) (argv.getD i undef))(h0:PRep P w g (v.enc ρ) (argv.getD 0 undef)):
 ∀(i:Nat) (sv:SV),(v::us.drop 1)[i]? =some sv->PRep P w g (sv.enc ρ) (argv.getD i undef):=fun i sv hsv=>by
 cases i with
 | zero=>cases hsv;exact h0
 | succ i=>
  simp only[List.getElem?_cons_succ,List.getElem?_drop]at hsv;exact h (i+1) sv (by rw[show i+1=1+i from by omega];exact hsv)
theorem call_ok (hS:Specs X.P ss Γ)(hN:d<X.N){args:Array Operand}{ats:Array TypeId}{f:FuncId}{caps:List SC}(hx:st.val x= .ok (.c (.fn f caps)))(h:stepCall st ss d f args.toList caps= .ok s)
 (hnr:nr=true->∀sg,findS st ss f args.toList=some sg->sg.flags.isEmpty=true):WStep X NoD Γ nr st ⟨some d,.call { callee:= .value x,args:=args,argTypes:=ats },ty,ps,af,gd⟩ s:=by
 unfold stepCall at h;split at h
 case h_2=>cases h
 rename_i sg hsg;split at h
 case isTrue=>cases h
 have hb0:=ok_bind h
 clear h
 obtain⟨us,hus,h⟩:=hb0;obtain⟨hmem,hf⟩:=findS_mem hsg;obtain⟨fn,_,hsp⟩:=hS sg hmem;have hnr' :nr=true->sg.flags.isEmpty=true:=fun e=>hnr e sg hsg
 intro ρ ρ' a w g hi hw hk hev;obtain⟨cv,hcvl,hcvr,hmach⟩:=call_enter (d:=d) (ty:=ty) (ps:=ps) (af:=af) (gd:=gd) (args:=args) (ats:=ats) hsp hf hi hx;obtain⟨m1,m2⟩:=mapM_ok _ _ hus;have hargs:=args_rep hi hus hcvr;unfold Oper.wp;rw[hmach];simp only[Oper.upon];rw[<-hf];unfold callPre at h;split at h
 ·
  rename_i e b io ps1 us1 hps;simp only at h;by_cases hc:((adoptNew st e b).wf=true/\(adoptNew st e b).rok=true/\caps.isEmpty=true)
  case neg=>rw[if_pos hc]at h;cases h
  rw[if_neg (fun hh=>hh hc)]at h;obtain⟨us2,hus2,h⟩:=ok_bind h;obtain⟨hw1,hk1,hc0⟩:=hc;have hc0:caps=[]:=by simpa using hc0
  subst hc0;obtain⟨g1,hi1,q1,_⟩:=hi.adoptNew (e:=e) (b:=b) (nl:=true) hk;have hcv0:cv= #[]:=Array.eq_empty_of_size_eq_zero hcvl;subst hcv0;have hargs2:=args_rep (caps:=[]) (cv:= #[]) hi1 hus2 (fun k q hq=>by simp[encL]at hq);simp only[List.map_nil,List.append_nil]at hargs2 hargs;have h0:(args.map a.eval++ #[]).getD 0 undef= .slice none 0 0:=by
   have:=hargs 0 _ rfl;have h0:CRep w g .nil ((args.map a.eval++ #[]).getD 0 undef):=by simpa[SV.enc,SC.enc,PRep]using this
   generalize (args.map a.eval++ #[]).getD 0 undef=u at h0;cases h0;rfl
  obtain⟨m3,_⟩:=mapM_ok _ _ hus2;have hlen:(args.map a.eval++ #[]).size=(SV.c (.h st.nr)::us2.drop 1).length:=by
   have h1:us2.length=args.size:=by simpa using m3
   have h2:(SV.c SC.nil::us1).length=args.size:=by simpa using m1
   simp at h1 h2 ⊢;omega
  refine Calls.mono (callV_ok hS hmem hN h hi1 hw1 hk1 hev hlen (args_head hargs2 (by rw[h0,<-q1];exact .hd _ _ rfl))) fun e2 w' ⟨v,h1,h2,g',h3,_⟩=> ?_
  subst h1;exact⟨fun e=>h2 (hnr' e),g',h3⟩
 ·
  rename_i e b ps1 xx us1 hps;simp only at h;by_cases hc:((st.push .dead).wf=true/\(st.push .dead).rok=true/\xx.lt st.ts.length=true/\caps.isEmpty=true)
  case neg=>rw[if_pos hc]at h;cases h
  rw[if_neg (fun hh=>hh hc)]at h;obtain⟨us2,hus2,h⟩:=ok_bind h;obtain⟨hw1,hk1,hxl,hc0⟩:=hc;have hc0:caps=[]:=by simpa using hc0
  subst hc0;have hcv0:cv= #[]:=Array.eq_empty_of_size_eq_zero hcvl;subst hcv0;obtain⟨g1,hi1,q1,q2,q3,q4⟩:=hi.adoptTok (v:=(args.map a.eval++ #[]).getD 0 undef) hk;have hargs2:=args_rep (caps:=[]) (cv:= #[]) hi1 hus2 (fun k q hq=>by simp[encL]at hq);simp only[List.map_nil,List.append_nil]at hargs2 hargs;have h0:CRep w g1 ((SC.tk st.nr xx).enc ρ) ((args.map a.eval++ #[]).getD 0 undef):=by
   have h1:CRep w g ((SC.s none xx).enc ρ) ((args.map a.eval++ #[]).getD 0 undef):=hargs 0 _ rfl;simp only[SC.enc]at h1 ⊢;refine .both _ _ _ (.hd _ _ q1.symm) (h1.keep (pl:=fun _=>False) (pr:=fun rg=>rg=none) (fun _ h=>h.elim) (fun rg hrg b hb=> ?_) (els_ok (prr:=fun rg=>rg=none) rfl _));subst hrg;exact⟨by show g1.S b;rw[q3];exact hb,rfl⟩
  obtain⟨m3,_⟩:=mapM_ok _ _ hus2;have hlen:(args.map a.eval++ #[]).size=(SV.c (.tk st.nr xx)::us2.drop 1).length:=by
   have h1:us2.length=args.size:=by simpa using m3
   have h2:(SV.c (SC.s none xx)::us1).length=args.size:=by simpa using m1
   simp at h1 h2 ⊢;omega
  refine Calls.mono (callV_ok hS hmem hN h hi1 hw1 hk1 hev hlen (args_head hargs2 h0)) fun e2 w' ⟨v,h1,h2,g',h3,_⟩=> ?_
  subst h1;exact⟨fun e=>h2 (hnr' e),g',h3⟩
 ·
  rename_i e b ps1 r i k xx us1 hps;obtain⟨⟨es1,st1⟩,hz,h⟩:=ok_bind h;simp only at h;by_cases hc:(st1.wf=true/\st1.rok=true/\caps.isEmpty=true/\st.dirty.isEmpty=true)
  case neg=>rw[if_pos hc]at h;cases h
  rw[if_neg (fun hh=>hh hc)]at h;obtain⟨us2,hus2,h⟩:=ok_bind h;obtain⟨R,hR,h⟩:=ok_bind h;by_cases hc2:(R.head? =some st.nr/\sg.flags.head? =some true/\(!R.contains r)=true)
  case neg=>rw[if_pos hc2]at h;cases h
  rw[if_neg (fun hh=>hh hc2)]at h;obtain⟨s2,hs2,h⟩:=ok_bind h;obtain⟨⟨es3,st3⟩,hpb,h⟩:=ok_bind h;simp only at h;split at h
  case h_2=>simp at h
  rename_i e3 b3 v3 nl3 i3 k3 hrr;by_cases hhole:(decide (i3=i/\k3=k))=true
  case neg=>rw[if_neg hhole]at h;cases h
  rw[if_pos hhole]at h;simp only[Except.ok.injEq]at h;subst h;obtain⟨hw1,hk1,hc0,hdty⟩:=hc;obtain⟨hR0,hfl0,hRr⟩:=hc2;have hc0:caps=[]:=by simpa using hc0
  subst hc0;rw[List.map_append,List.map_append]at hev;obtain⟨ρ1,hev1,hev⟩:=evalB_app _ _ hev;obtain⟨ρ2,hev2,hev3⟩:=evalB_app _ _ hev;obtain⟨g1,hi1,o1,o2,_,⟨ρx,rfl⟩,o4,o5,o6⟩:=takeOut_ok hi hz hev1;have hcv0:cv= #[]:=Array.eq_empty_of_size_eq_zero hcvl;subst hcv0;have hargs2:=args_rep (caps:=[]) (cv:= #[]) hi1 hus2 (fun k q hq=>by simp[encL]at hq);simp only[List.map_nil,List.append_nil]at hargs2 hargs;have h0:(args.map a.eval++ #[]).getD 0 undef=g1.hdr (st.nr,[]):=by
   have:=hargs 0 _ rfl;have h0:CRep w g (.both (.hd (r,[(i.nat ρ,k)])) (.ro (some r) ((xx.get ρ).els (some r)))) ((args.map a.eval++ #[]).getD 0 undef):=by simpa[SV.enc,SC.enc,PRep]using this
   rw[hd_eq (both_l h0),o1]
  obtain⟨m3,_⟩:=mapM_ok _ _ hus2;have hlen:(args.map a.eval++ #[]).size=(SV.c (.h st.nr)::us2.drop 1).length:=by
   have h1:us2.length=args.size:=by simpa using m3
   have h2:(SV.c (.hn r i k xx)::us1).length=args.size:=by simpa using m1
   simp at h1 h2 ⊢;omega
  refine Calls.mono (callV_ok hS hmem hN hs2 hi1 hw1 hk1 hev2 hlen (args_head hargs2 (by rw[h0];exact .hd _ _ rfl))) fun e2 w' ⟨v,h1,h2,g',h3,h4⟩=> ?_
  subst h1;refine⟨fun e=> ?_,?_⟩
  ·have:=hnr' e;have hn:sg.flags=[]:=by simpa using this
   rw[hn]at hfl0;cases hfl0
  obtain⟨k1,k2⟩:=h4 R hR;obtain⟨ρ3,hρ3⟩:=evalB_prefix _ _ _ hev2;refine putBack_ok h3 hpb hev3 fun e' b' v' nl' i' k' hr' => ?_
  rw[hr']at hrr;cases hrr;simp only[decide_eq_true_eq]at hhole;obtain⟨rfl,rfl⟩:=hhole;have hin:i3.nat ρ2=i3.nat ρ:=by rw[hρ3,List.append_assoc,nat_app (by rw[hi.len];exact o6)]
  rw[hin,k1 r _ (by rw[o5];omega) (by simpa using hRr),k2 0 st.nr (by rw[List.head?_eq_getElem?]at hR0;exact hR0) (by rw[List.head?_eq_getElem?]at hfl0;exact hfl0),o2 _ o4,o1]
 ·refine Calls.mono (callV_ok hS hmem hN h hi hw hk hev (by simp[m1,hcvl]) hargs) fun e2 w' ⟨v,h1,h2,g',h3,_⟩=> ?_
  subst h1;exact⟨fun e=>h2 (hnr' e),g',h3⟩
end
end Go.Pu
/-
  Own work. From the body to the contract.
-/
namespace Go.Pu
open Go Go.RowKit
set_option linter.unusedVariables false
set_option linter.unusedSectionVars false
section
variable {X:Ctx} {D:Nat->Prop} {Γ:List FE} {st:St} {ρ:Env} {a:Act} {w:World} {g:G}
theorem outRes_ok (hi:TInv X D st ρ a w g)(hN:0<X.N){es:List (Ex×Ty)}{st' :St}(h:outRes st= .ok (es,st')){ρ' :Env}(hev:evalB Γ (es.map (·.1)) ρ=some ρ'):∃g',TInv X D st' ρ' a w g' :=by
 have hs:=hi.inv.slot 0;unfold outRes at h;split at h
 ·rename_i r i k xx hsl;obtain⟨⟨es1,st1⟩,hz,h⟩:=ok_bind h;simp only[Except.ok.injEq,Prod.mk.injEq]at h;obtain⟨rfl,rfl⟩:=h;obtain⟨g1,hi1,h1,_⟩:=takeOut_ok hi hz hev;rw[hsl]at hs;have hs:CRep w g (.both (.hd (r,[(i.nat ρ,k)])) (.ro (some r) ((xx.get ρ).els (some r)))) (a.tmps.getD 0 undef):=by simpa[SV.enc,SC.enc,PRep]using hs
  exact⟨g1,hi1.reslot (.hd _ _ (by rw[hd_eq (both_l hs),h1]))⟩
 ·rename_i r i k xx rs hsl;obtain⟨⟨es1,st1⟩,hz,h⟩:=ok_bind h;simp only at h;split at h
  ·rename_i x0 rs1 hsl1;simp only[Except.ok.injEq,Prod.mk.injEq]at h;obtain⟨rfl,rfl⟩:=h;obtain⟨g1,hi1,h1,_⟩:=takeOut_ok hi hz hev;rw[hsl]at hs;have hs1:=hi1.inv.slot 0;rw[hsl1]at hs1;obtain⟨vs,e1,e2,e3⟩:=hs;obtain⟨vs1,f1,f2,f3⟩:=hs1;rw[e1]at f1;cases f1;refine⟨g1,hi1.reslot ⟨vs,e1,by rw[f2];simp,fun j q hq=> ?_⟩⟩;cases j with
   | zero=>
    simp only[List.map_cons,List.getElem?_cons_zero,Option.some.injEq]at hq;subst hq;obtain⟨u,hu,hr⟩:=e3 0 _ rfl;refine⟨u,hu,?_⟩;have hr:CRep w g (.both (.hd (r,[(i.nat ρ,k)])) (.ro (some r) ((xx.get ρ).els (some r)))) u:=by simpa[encR,encL,SC.enc,RRep]using hr
    show CRep w g1 (.hd (st.nr,[])) u;exact .hd _ _ (by rw[hd_eq (both_l hr),h1])
   | succ j=>exact f3 (j+1) q (by simpa using hq)
  ·cases h
 ·simp only[Except.ok.injEq,Prod.mk.injEq]at h;obtain⟨rfl,rfl⟩:=h;have:=evalB_nil hev;subst this;exact⟨g,hi⟩
end
theorem spec_of {P:Program}{ss:List Sig}{Γ:List FE}{an:Ann}{s:Sig}{stm:Stm}{fn:s.p.den->Option s.r.den}(hm:P.follows .mixedOrders=true)(hop:∀X:Ctx,X.P=P->OpLaw X Γ ss)(h:cFunc P ss an s= .ok stm)
 (hname : (match P.funcs[s.f]? with | some F => F.name == "runtime.NumGoroutine" | none => true) = false) (hfn : ∀ x, fn x = stm.den Γ [] s.r [⟨s.p, x⟩]) : CallSpec P s fn := by
 unfold cFunc at h;split at h
 ·cases h
 ·rename_i F hF;split at h
  ·cases h
  ·rename_i c hb;by_cases hc:(an.N=F.ntmps/\s.ps.length<=F.ntmps)
   ·rw[if_neg (fun hh=>hh hc)]at h;obtain⟨hN,hle⟩:=hc;rw[hF]at hname;refine⟨⟨F,hF,hname,by rw[hb];rfl⟩,fun x y w g args hp hy=> ?_⟩;refine calls_of_wp hF hb ?_
    let X:Ctx:=⟨P,F.ntmps,w.heap.size,w,g.S,fun b=>∃l,g.own b=some l,fun j=>g.hdr (j,[])⟩
    have hsz:(args++Array.replicate (F.ntmps - args.size) undef).size=F.ntmps:=by rw[Array.size_append,Array.size_replicate,hp.size];omega
    have hlen:(preSt s).slots.length=s.ps.length:=initSlots_length _ _ _ _;have hi:TInv X NoD (initSt F.ntmps s) [⟨s.p,x⟩] { tmps:=args++Array.replicate (F.ntmps - args.size) undef,defers:=[] } w g:=by
     refine⟨rfl,⟨hsz,rfl,⟨Chg.refl _ _ _,Nat.le_refl _,fun b hb=>⟨hp.S b hb,.inl hb⟩,fun b l hl=>⟨.inl ⟨l,hl⟩,hp.own b l hl⟩⟩,fun i=> ?_,fun l row hl=>hp.row l row hl⟩,fun r _=>rfl,⟨fun b hb=>hb.elim,fun r b q h=>by cases h⟩⟩;show PRep P w g (((initSt F.ntmps s).slot i).enc [⟨s.p,x⟩]) ((args++Array.replicate (F.ntmps - args.size) undef).getD i undef);have hsl:(initSt F.ntmps s).slot i=(((preSt s).slots++List.replicate (F.ntmps - (preSt s).slots.length) SV.und).getD i SV.junk):=rfl;rw[hsl];by_cases hi:i<s.ps.length
     ·have e1:((preSt s).slots++List.replicate (F.ntmps - (preSt s).slots.length) SV.und).getD i .junk=(preSt s).slot i:=by
       unfold St.slot;rw[List.getD,List.getD,List.getElem?_append_left (by omega)]
      have e2:(args++Array.replicate (F.ntmps - args.size) undef).getD i undef=args.getD i undef:=by
       rw[Array.getD_eq_getD_getElem?,Array.getD_eq_getD_getElem?,Array.getElem?_append_left (by rw[hp.size];exact hi)]
      rw[e1,e2];exact hp.slot i
     ·have e1:((preSt s).slots++List.replicate (F.ntmps - (preSt s).slots.length) SV.und).getD i .junk= .und\/((preSt s).slots++List.replicate (F.ntmps - (preSt s).slots.length) SV.und).getD i .junk= .junk:=by
       rw[List.getD,List.getElem?_append_right (by omega),List.getElem?_replicate];split
       ·exact .inl rfl
       ·exact .inr rfl
      have e2:(args++Array.replicate (F.ntmps - args.size) undef).getD i undef=undef:=by
       rw[Array.getD_eq_getD_getElem?,Array.getElem?_append_right (by rw[hp.size];omega),Array.getElem?_replicate];split<;>rfl
      rw[e2];rcases e1 with e1 | e1<;>rw[e1]
      ·rfl
      ·trivial
    have hden:stm.den Γ [] s.r [⟨s.p,x⟩]=some y:=by rw[<-hfn];exact hy
    refine Code.wp_mono (fun e a' w' hb' => ?_) (code_ok (X:=X) hm (hop X rfl) (jump_law X) hN c _ _ stm h [] y _ _ w g hi hden);obtain⟨st',ρ1,g',s',q1,q2,q3⟩:=hb';have fin:cFin P F s st' = .ok s'→a'.defers=[]/\∃v,(results F a'.tmps).run P w' = .ok v w'∧∃v',(Ending.returned v)= .returned v'∧Post P s y w g v' w' :=fun hfin=>by
     refine⟨q2.inv.nodef,?_⟩;unfold cFin at hfin;obtain⟨cs,hcs,hfin⟩:=ok_bind hfin;split at hfin
     ·cases hfin
     ·rename_i hne;obtain⟨⟨es,st2⟩,ho,hfin⟩:=ok_bind hfin;obtain⟨⟨t,xs⟩,hj,hfin⟩:=ok_bind hfin;simp only[Except.ok.injEq]at hfin;subst hfin;obtain⟨v,hv,hrep⟩:=results_ok q2 hcs (by simpa using hne);refine⟨v,hv,v,rfl,?_⟩
      let X1:Ctx:={ X with N:=1 }
      have hi0:TInv X1 NoD { st' with slots:=[resPut cs] } ([⟨s.p,x⟩]++ρ1) { tmps:= #[v],defers:=[] } w' g' :=by
       refine⟨q2.typ,⟨rfl,rfl,⟨q2.inv.ok.chg,q2.inv.ok.base,q2.inv.ok.S,q2.inv.ok.own⟩,fun i=> ?_,q2.inv.row⟩,q2.fixd,q2.dirt⟩;cases i with
       | zero=>exact hrep
       | succ i=>trivial
      obtain⟨ρ2,hev,q3⟩:=binds_den _ _ q3;obtain⟨g1,hi1⟩:=outRes_ok hi0 (Nat.lt_succ_self 0) ho hev;have ht:t=s.r:=jump_ty hj rfl;subst ht;obtain⟨g2,hi2⟩:=jump_law X1 _ _ _ _ [] _ _ w' g1 hj hi1.untk rfl;have hy2:(mkv s.r (xs.map (At.get ([]++ρ2)))).1=y:=by
       simp only[Stm.den,dif_pos,Option.some.injEq]at q3;exact q3
      rw[hy2]at hi2;refine⟨hi2.inv.ok.chg,g2,fun b l hl=> ?_,fun j hj=> ?_,hi2.inv.slot 0,hi2.inv.row,hi2.inv.ok.S,fun b l hl=>(hi2.inv.ok.own b l hl).2.2⟩
      ·obtain⟨h1,h2,_⟩:=hi2.inv.ok.own b l hl;exact⟨h1,h2⟩
      ·have:=fixed_flags s.ps 0 j hj;rw[Nat.zero_add]at this;exact hi2.fixd j this
    cases e with
    | normal=>exact fin q1
    | ret=>exact fin q1
    | exit id=>cases q1
    | goto l=>cases q1
    | panic ch=>cases q1
    | outgrown=>cases q1
   ·rw[if_pos hc]at h;cases h
end Go.Pu
/-
  Own work. Maps from ints to bools.
-/
namespace Go.Pu
open Go Go.RowKit Go.MapKept
set_option linter.unusedVariables false
set_option linter.unusedSectionVars false
theorem mapT_spec {P:Program}{t:TypeId}(h:(mapT P t).isSome=true):∃k e i,P.underlying t=some (.map k e)/\P.underlying k=some (.int .i64)/\P.info? e=some i/\i.zero=some (.bool false):=by
 unfold mapT at h;split at h
 ·rename_i k e hu;split at h
  ·rename_i i hk hi;split at h
   ·rename_i hz;exact⟨k,e,i,hu,hk,hi,hz⟩
   ·cases h
  ·cases h
 ·cases h
def EntRep (es:List MapEntry)(kvs:List (Int×Bool)):Prop:=es.map (fun e=>(e.key,e.val))=kvs.map (fun kv=>(Value.int .i64 kv.1,Value.bool kv.2))
theorem findNow_ent:∀(es:List MapEntry) (kvs:List (Int×Bool)) (k:Int) (i0:Nat),EntRep es kvs->
 (Instr.findNow (.int .i64) (.int .i64 k) es i0=some none/\(∀b,mset kvs k b=kvs++[(k,b)])/\mget kvs k=false)\/
 ∃(j:Nat) (b:Bool),Instr.findNow (.int .i64) (.int .i64 k) es i0=some (some (i0+j,.bool b))/\kvs[j]? =some (k,b)/\(∀b',mset kvs k b' =kvs.set j (k,b'))/\mget kvs k=b
 | [],[],k,i0,_=> .inl ⟨rfl,fun b=>rfl,rfl⟩
 | e::es,kv::kvs,k,i0,h=>by
  simp only[EntRep,List.map_cons,List.cons.injEq,Prod.mk.injEq]at h;obtain⟨⟨h1,h2⟩,h3⟩:=h;by_cases hk:k=kv.1
  ·subst hk
   right
   refine⟨0,kv.2,by simp[Instr.findNow,Instr.sameNow,h1,h2],rfl,fun b' =>by simp[mset],by simp[mget]⟩
  ·have hb:(kv.1==k)=false:=by simp;exact fun e=>hk e.symm
   have hb2:(k==kv.1)=false:=by simp;exact hk
   rcases findNow_ent es kvs k (i0+1) h3 with⟨q1,q2,q3⟩ | ⟨j,b,q1,q2,q3,q4⟩
   ·left
    refine⟨by simp only[Instr.findNow,Instr.sameNow,h1,if_true,hb2,q1],fun b=>by simp[mset,hk,q2],?_⟩;simp only[mget]at q3 ⊢;simp only[List.find?_cons,hb];exact q3
   ·right
    refine⟨j+1,b,by simp only[Instr.findNow,Instr.sameNow,h1,if_true,hb2,q1,Option.some.injEq,Prod.mk.injEq,and_true];omega,by simpa using q2,fun b' =>by simp[mset,hk,q3],?_⟩;simp only[mget]at q4 ⊢;simp only[List.find?_cons,hb];exact q4
 | [],_::_,_,_,h=>by simp[EntRep]at h
 | _::_,[],_,_,h=>by simp[EntRep]at h
theorem key_int (k:Int):IsKey (.int .i64) (.int .i64 k):=by simp[IsKey]
section
variable {X:Ctx} {D:Nat->Prop} {Γ:List FE} {st:St} {ρ:Env} {a:Act} {w w' :World} {g g' :G}
variable {d:Nat} {x y z:Operand} {t t' ty:TypeId} {ps:String} {af:Array Edge} {gd:Option (Nat×Bool)} {s:Step} {nr:Bool}
theorem mp_of {V:V}(h:V.t= .mp):∃m:List (Int×Bool),V=⟨.mp,m⟩:=by
 obtain⟨t,x⟩:=V;simp only at h;subst h;exact⟨x,rfl⟩
theorem map_row (hi:TInv X D st ρ a w g){r:Nat}{v:At}{m:List (Int×Bool)}(hr:st.rk r= .mp v)(hv:v.get ρ=⟨.mp,m⟩):
 ∃(b clk:Nat) (es:Array MapEntry),g.hdr (r,[])= .map (some b)/\g.own b=some (r,[])/\w.heap[b]? =some (.map es clk)/\EntRep es.toList m:=by
 have hrow:RowRep X.P w g (r,[]) (.mp m):=by
  refine hi.inv.row (r,[]) _ ?_
  simp only[hr,RK.rows,hv];rw[V.as_self]
 cases hrow with
 | mp _ b clk es hd own heap hes=>exact⟨b,clk,es,hd,own,heap,hes⟩
theorem run_lookup {P:Program}{w:World}{b clk:Nat}{es:Array MapEntry}{m:List (Int×Bool)}{k:Int}(ht:(mapT P t).isSome=true)(hb:w.heap[b]? =some (.map es clk))(he:EntRep es.toList m):
 (Instr.lookup t (.map (some b)) (.int .i64 k) false).run P w= .ok (.bool (mget m k)) w:=by
 obtain⟨kt,et,i,hu,hk,hinfo,hzero⟩:=mapT_spec ht;have hzv:(zeroValue et).run P w= .ok (.bool false) w:=by simp[zeroValue,typeInfo,hinfo,hzero]
 have hfk:∀r,Instr.findNow (.int .i64) (.int .i64 k) es.toList 0=some r->(Instr.findKey kt (.int .i64 k) es.toList).run P w= .ok r w:=fun r h=>run_findKey hk h
 have hck:=run_checkKey (P:=P) (w:=w) hk (key_int k) es.isEmpty 9999;unfold Instr.lookup;simp only[Sem.run_bind,run_underlying hu,Result.andThen_ok,MapKept.run_getObj_map hb,Sem.run_pure,hck];rcases findNow_ent es.toList m k 0 he with⟨q1,_,q3⟩ | ⟨j,b',q1,_,_,q4⟩
 ·simp only[hfk _ q1,Result.andThen_ok,Sem.run_bind,hzv,Sem.run_pure,q3];rfl
 ·simp only[hfk _ q1,Result.andThen_ok,Sem.run_pure,q4];rfl
theorem lookup_ok (hN:d<X.N)(h:stepLookup X.P st d t x y= .ok s):QStep X D Γ st ⟨some d,.lookup t x y false,ty,ps,af,gd⟩ s:=by
 unfold stepLookup at h;have hb1:=ok_bind h
 clear h
 obtain⟨⟨kk,i⟩,hy,h⟩:=hb1;have hb2:=ok_bind h
 clear h
 obtain⟨vx,hx,h⟩:=hb2;obtain⟨y1,y2⟩:=intOf_ok hy;split at h
 case h_2=>cases h
 rename_i r;split at h
 case h_2=>cases h
 rename_i v hr;split at h
 case isFalse=>cases h
 rename_i hc;obtain⟨ht,rfl,hvt,hcl⟩:=hc;simp only[Except.ok.injEq]at h;subst h;refine q_step1 rfl hN fun ρ a w g v' hi hv' => ?_
 obtain⟨m,hm⟩:=mp_of (At.ty_get hi.typ hvt);simp only[Ex.den1,Ex.den,hm,Option.some.injEq]at hv';subst hv';obtain⟨b,clk,es,q1,q2,q3,q4⟩:=map_row hi hr hm;have hxv:a.eval x= .map (some b):=by
  have:CRep w g (.hd (r,[])) (a.eval x):=by simpa[SV.enc,SC.enc,PRep]using val_rep hi hx
  rw[hd_eq this,q1]
 have hyv:=val_int hi y1 y2;have hnd:¬D b:=clean_own hi q2 (fun _=>by simpa[St.clean]using hcl) (fun h=>absurd rfl h);refine⟨rfl,.bool _,fun w' hcls=> ?_,.bool _⟩;have hrel:=hcls rfl;have hb' :w'.heap[b]? =some (.map es clk):=by rw[hrel.2 b (Array.getElem?_eq_some_iff.1 q3).1 hnd];exact q3
 simp only[execOp,hxv,hyv,Sem.run_bind,run_lookup ht hb' q4,Result.andThen_ok,Sem.run_pure]
theorem run_mapUpdate {P:Program}{w:World}{b clk:Nat}{es:Array MapEntry}{m:List (Int×Bool)}{k:Int}{bv:Bool}(ht:(mapT P t).isSome=true)(hb:w.heap[b]? =some (.map es clk))(he:EntRep es.toList m):
 ∃es' clk',(Instr.mapUpdate t (.map (some b)) (.int .i64 k) (.bool bv)).run P w= .ok () { w with heap:=w.heap.setIfInBounds b (.map es' clk') }/\EntRep es'.toList (mset m k bv):=by
 obtain⟨kt,et,i,hu,hk,hinfo,hzero⟩:=mapT_spec ht;have hfk:∀r,Instr.findNow (.int .i64) (.int .i64 k) es.toList 0=some r->(Instr.findKey kt (.int .i64 k) es.toList).run P w= .ok r w:=fun r h=>run_findKey hk h
 have hck:=run_checkKey (P:=P) (w:=w) hk (key_int k) false 9999;unfold Instr.mapUpdate;rcases findNow_ent es.toList m k 0 he with⟨q1,q2,_⟩ | ⟨j,b',q1,q2,q3,_⟩
 ·refine⟨es.push { key:= .int .i64 k,val:= .bool bv,born:=clk },clk+1,?_,?_⟩
  ·simp only[Sem.run_bind,run_underlying hu,Result.andThen_ok,MapKept.run_getObj_map hb,hck,hfk _ q1,MapKept.run_setObj_map _ hb]
  ·rw[q2];simp only[EntRep,Array.toList_push,List.map_append,List.map_cons,List.map_nil]at he ⊢;rw[he]
 ·have hlen:es.toList.length=m.length:=by
   have:=congrArg List.length he;simpa using this
  have hjl:j<m.length:=(List.getElem?_eq_some_iff.1 q2).1;have hj2:j<es.toList.length:=by omega
  have hes:es.toList[j]? =some es.toList[j]:=List.getElem?_eq_getElem hj2;have hkey:es.toList[j].key= .int .i64 k:=by
   have h1:(es.toList.map (fun e=>(e.key,e.val)))[j]? =(m.map (fun kv=>(Value.int .i64 kv.1,Value.bool kv.2)))[j]? :=by rw[he]
   rw[List.getElem?_map,List.getElem?_map,hes,q2]at h1;simp only[Option.map_some,Option.some.injEq,Prod.mk.injEq]at h1;exact h1.1
  have hes2:es[j]? =some es.toList[j]:=by rw[<-Array.getElem?_toList];exact hes
  refine⟨es.modify j fun e=>{ e with key:= .int .i64 k,val:= .bool bv },clk,?_,?_⟩
  ·have hkt:(Instr.keyThatStays (.int .i64 k) (.int .i64 k)).run P w= .ok (.int .i64 k) w:=by
    simp[Instr.keyThatStays,Instr.sameBits]
   simp only[Sem.run_bind,run_underlying hu,Result.andThen_ok,MapKept.run_getObj_map hb,hck,hfk _ q1,Nat.zero_add,hes2,Option.map_some,Option.getD_some,hkey,hkt,MapKept.run_setObj_map _ hb]
  ·rw[q3];simp only[EntRep]at he ⊢;apply List.ext_getElem?;intro n;have hn:(es.toList.map (fun e=>(e.key,e.val)))[n]? =(m.map (fun kv=>(Value.int .i64 kv.1,Value.bool kv.2)))[n]? :=by rw[he]
   rw[List.getElem?_map,List.getElem?_map]at hn ⊢;have hmod:(es.modify j fun e=>{ e with key:= .int .i64 k,val:= .bool bv }).toList[n]? =if j=n then(es.toList[n]?).map (fun e=>{ e with key:= .int .i64 k,val:= .bool bv })else es.toList[n]? :=by
    rw[Array.getElem?_toList,Array.getElem?_modify,Array.getElem?_toList]
   rw[hmod];by_cases e:j=n
   ·subst e;rw[if_pos rfl,hes,List.getElem?_set_self hjl];rfl
   ·rw[if_neg e,List.getElem?_set_ne e];exact hn
theorem gok_obj (h:GOK X g w){b:Nat}{l:Loc}(ho:g.own b=some l)(o:Obj):GOK X g { w with heap:=w.heap.setIfInBounds b o }:=by
 obtain⟨h1,h2,h3⟩:=h.own b l ho;have hs:({ w with heap:=w.heap.setIfInBounds b o }:World).heap.size=w.heap.size:=by simp
 refine⟨h.chg.trans ⟨rfl,rfl,rfl,by rw[hs];exact Nat.le_refl _,fun k hk hO=> ?_⟩,by rw[hs];exact h.base,fun b' hb' =>by rw[hs];exact h.S b' hb',fun b' l' hl=>by rw[hs];exact h.own b' l' hl⟩;have:b≠k:=by
  intro e;subst e
  rcases h1 with h1 | h1
  ·exact hO h1
  ·omega
 simp[Array.getElem?_setIfInBounds_ne this]
theorem mapUpdate_ok (h:stepMapUpdate X.P st t x y z= .ok s):WStep X D Γ false st ⟨none,.mapUpdate t x y z,ty,ps,af,gd⟩ s:=by
 unfold stepMapUpdate at h;have hb1:=ok_bind h
 clear h
 obtain⟨⟨kk,i⟩,hy,h⟩:=hb1;have hb2:=ok_bind h
 clear h
 obtain⟨bx,hz,h⟩:=hb2;have hb3:=ok_bind h
 clear h
 obtain⟨vm,hx,h⟩:=hb3;obtain⟨y1,y2⟩:=intOf_ok hy;obtain⟨z1,z2⟩:=boolOf_ok hz;split at h
 case h_2=>cases h
 rename_i r;split at h
 case h_2=>cases h
 rename_i v hr;split at h
 case isFalse=>cases h
 rename_i hc;obtain⟨ht,rfl,hvt,hdty⟩:=hc;have hdty:st.dirty=[]:=by simpa using hdty
 simp only[Except.ok.injEq]at h;subst h;intro ρ ρ' a w g hi hw hk hev;obtain⟨v',hv',rfl⟩:=evalB_one hev;obtain⟨m,hm⟩:=mp_of (At.ty_get hi.typ hvt);simp only[Ex.den1,Ex.den,hm,Option.some.injEq]at hv';subst hv';obtain⟨b,clk,es,q1,q2,q3,q4⟩:=map_row hi hr hm;have hxv:a.eval x= .map (some b):=by
  have:CRep w g (.hd (r,[])) (a.eval x):=by simpa[SV.enc,SC.enc,PRep]using val_rep hi hx
  rw[hd_eq this,q1]
 have hyv:=val_int hi y1 y2;have hzv:=val_bool hi z1 z2;obtain⟨es',clk',hrun,he'⟩:=run_mapUpdate (t:=t) (k:=(i.get ρ).int) (bv:=(bx.get ρ).bool) ht q3 q4;unfold Oper.wp;simp only[execOp,hxv,hyv,hzv,Sem.run_bind,hrun,Result.andThen_ok,Sem.run_pure,Oper.upon];refine⟨fun e=>(by cases e),g,?_⟩;have hi2:=hi.bindOne hw (v:=⟨.mp,mset m (i.get ρ).int (bx.get ρ).bool⟩) rfl;have hob:=hi.inv.ok.own b _ q2;have hother:∀b2,b2≠b->({ w with heap:=w.heap.setIfInBounds b (.map es' clk') }:World).heap[b2]? =w.heap[b2]? :=fun b2 hb2=>by simp[Array.getElem?_setIfInBounds_ne (Ne.symm hb2)]
 have S:Stab (st.bind .mp).nr false r w g { w with heap:=w.heap.setIfInBounds b (.map es' clk') } g:=stab_write q2 hob.2.2 hother;have hput:TInv X D { (((st.bind .mp).kill false r).setR r (.mp st.ref))with dirty:=st.dirty } (ρ++[⟨.mp,mset m (i.get ρ).int (bx.get ρ).bool⟩]) a { w with heap:=w.heap.setIfInBounds b (.map es' clk') } g:=by
  refine hi2.mut (rok_bind hk _) S (gok_obj hi.inv.ok q2 _) _ (fun p row hp=> ?_) (fun h=>by cases h) (fun b2 l hl hb2=>⟨hb2,hother b2 fun e0=>by subst e0;rw[q2]at hb2;cases hb2;exact hl rfl⟩) st.dirty hi.dirt;cases p with
  | cons q p=>simp[RK.rows]at hp
  | nil=>
   simp only[RK.rows,Option.some.injEq]at hp;subst hp;rw[ref_get hi.len,V.as_self];exact .mp _ b clk' es' q1 q2 (by simp[Array.getElem?_setIfInBounds_self_of_lt (Array.getElem?_eq_some_iff.1 q3).1]) he'
 exact hput
end
end Go.Pu
/-
  Own work. Owned lists cut down to a part.
-/
namespace Go.Pu
open Go Go.RowKit
set_option linter.unusedVariables false
set_option linter.unusedSectionVars false
section
variable {X:Ctx} {D:Nat->Prop} {Γ:List FE} {st:St} {ρ:Env} {a:Act} {w w' :World} {g g' :G}
variable {d:Nat} {x y z:Operand} {t t' ty:TypeId} {ps:String} {af:Array Edge} {gd:Option (Nat×Bool)} {s:Step} {nr:Bool}
theorem flat_list_length {b:Ty}{r:Nat}{xs:List b.den}(i:Nat)(c:List C)(h:(xs.mapIdx fun i y=>encIn none r i b y)[i]? =some c):c.length=b.n:=by
 rw[List.getElem?_mapIdx,Option.map_eq_some_iff]at h;obtain⟨y,_,rfl⟩:=h;exact encE_length _ _ _ _ _
theorem flat_list_get {b:Ty}(hf:b.flat=true){r:Nat}{rg:Rg}{xs:List b.den}(i:Nat)(c:List C)(h:(xs.mapIdx fun i y=>encIn none r i b y)[i]? =some c):(List.map (enc rg b) xs)[i]? =some c:=by
 rw[List.getElem?_mapIdx,Option.map_eq_some_iff]at h;obtain⟨y,hy,rfl⟩:=h;rw[List.getElem?_map,hy];simp only[encIn,Option.map_some,encE_flat r i rg 0 b y hf]
theorem ro_inv {rg:Rg}{els:List (List C)}{u:Value}{A:Option Addr}{n c:Nat}(h:CRep w g (.ro rg els) u)(hu:u= .slice A n c):(els=[]/\n=0)\/∃(b off s:Nat) (f:Nat->Nat->Value),A=some ⟨b,off,none⟩/\n=els.length/\n<=c/\
 (∀(i:Nat) (cs:List C),els[i]? =some cs->cs.length=s)/\∀(i:Nat) (cs:List C) (k:Nat) (q:C),els[i]? =some cs->cs[k]? =some q->w.cell? ⟨b,off+(i*s+k),none⟩=some (f i k)/\CRep w g q (f i k):=by
 cases h with
 | ro0 _ A' cap=>cases hu;exact .inl ⟨rfl,rfl⟩
 | ro _ _ b' off n' cap' s' f' hn' hc' hm' hS' hs' hsz' hcell' hrep' =>
  cases hu;exact .inr ⟨b',off,s',f',rfl,hn',hc',hsz',fun i cs k q q1 q2=>⟨hcell' i cs k q q1 q2,hrep' i cs k q q1 q2⟩⟩
theorem commit_ok (hi:TInv X D st ρ a w g){r:Nat}{xx:At}{st1:St}(h:commitSt X.P st r xx= .ok st1){lo hi' :Option At}{v:Value}(hv:CRep w g ((SC.hs r lo hi' xx).enc ρ) v):
 ∃g1,TInv X D st1 ρ a w g1/\g1.hdr (r,[])=v/\g1.own=g.own/\g1.S=g.S/\(∀l,l≠(r,[])->g1.hdr l=g.hdr l):=by
 unfold commitSt at h;split at h
 case h_2=>cases h
 rename_i e b v0 nl hr;split at h
 case isFalse=>cases h
 rename_i hc;obtain⟨hf,hxt,hbn,h0,hfix,hk⟩:=hc;simp only[Except.ok.injEq]at h;subst h;have hfix:st.fix.contains r=false:=by simpa using hfix
 have hrow0:=row_of hi hr;have hxg:=V.list_of (At.ty_get hi.typ hxt);simp only[SC.enc]at hv;have hv1:=both_l hv;have hv2:=both_r hv;rw[hxg]at hv1 hv2;generalize hys:(xx.get ρ).as (.sl e b)=ys at hv1 hv2 hxg;simp only[V.esz,V.len,V.els]at hv1 hv2;have hvv:v=subHdr (g.hdr (r,[])) b.n (loOf ρ lo) ys.length:=by cases hv1;assumption
 let g1:G:={ S:=g.S,own:=g.own,hdr:=fun l=>if l=(r,[])then v else g.hdr l }
 have hh:∀l,l≠(r,[])->g1.hdr l=g.hdr l:=fun l h=>by simp only[g1];rw[if_neg h]
 have hh0:g1.hdr (r,[])=v:=by simp only[g1,if_true]
 have hok:=hi.inv.ok;refine⟨g1,?_,hh0,rfl,rfl,hh⟩;have hm:=hi.mut hk (all:=true) (r:=r) (w' :=w) (g' :=g1) ⟨fun l h1 h2 h3=>hh l (fun e0=>by subst e0;rcases h1 with h1 | h1;cases h1;exact h1 rfl),fun rg _ _ b0 hb0=>⟨hb0,rfl⟩⟩ ⟨hok.chg,hok.base,hok.S,hok.own⟩ (.list e b xx false none) (fun p row hp=> ?_) (fun _=>hfix) (fun b0 l _ hb0=>⟨hb0,rfl⟩) st.dirty hi.dirt
 ·exact hm
 cases p with
 | cons q p=>
  obtain⟨_,rfl,y',_,hs⟩:=rows_cons_list hp;rw[flat_noRow _ _ _ _ hf]at hs;cases hs
 | nil=>
  rw[rows_nil_list,hys]at hp;cases hp;have hnil:ys=[]->(∃A,v= .slice A 0 0)->RowRep X.P w g1 (r,[]) (.row false false e (ys.mapIdx fun i y=>encIn none r i b y)):=fun h1 ⟨A,h2⟩=>by
   subst h1;cases A with
   | none=>exact .nil _ _ (hh0.trans h2)
   | some A=>exact .zero _ A (hh0.trans h2)
  have hle:∀{A:Option Addr} {n c:Nat},v= .slice A n c->n=ys.length->ys.length<=c:=fun {A n c} h1 h2=>by
   rcases ro_inv hv2 h1 with⟨h3,h4⟩ | ⟨b',off,s',f',h3,h4,h5,_⟩
   ·omega
   ·omega
  generalize ((v0.get ρ).as (.sl e b)).mapIdx (fun i y=>encIn none r i b y)=els0 at hrow0;cases hrow0 with
  | nil _ _ hd=>
   rw[hd]at hvv;simp only[subHdr]at hvv;have h1:=hle hvv rfl;have h2:ys.length=0:=by omega
   exact hnil (List.eq_nil_of_length_eq_zero h2) ⟨_,by rw[hvv,h2,Nat.zero_sub]⟩
  | zero _ A hd=>
   rw[hd]at hvv;simp only[subHdr]at hvv;have h1:=hle hvv rfl;have h2:ys.length=0:=by omega
   exact hnil (List.eq_nil_of_length_eq_zero h2) ⟨_,by rw[hvv,h2,Nat.zero_sub]⟩
  | full _ _ _ _ bb base n cap cs f hrf=>
   have hd:g.hdr (r,[])= .slice (some ⟨bb,base,none⟩) n cap:=hrf.hd;rw[hd]at hvv;simp only[subHdr]at hvv;have h1:=hle hvv rfl;by_cases hcl:cap - loOf ρ lo=0
   ·have h2:ys.length=0:=by omega
    exact hnil (List.eq_nil_of_length_eq_zero h2) ⟨_,by rw[hvv,h2,hcl]⟩
   ·have hne:¬cap=loOf ρ lo:=by omega
    rw[if_neg hne]at hvv;simp only[Option.map_some,addr_add]at hvv;have hcellT:∀(i:Nat) (c:List C) (k:Nat) (q:C),(ys.mapIdx fun i y=>encIn none r i b y)[i]? =some c->c[k]? =some q->∃u,w.cell? ⟨bb,base+loOf ρ lo*b.n+(i*b.n+k),none⟩=some u/\CRep w g q u:=fun i c k q q1 q2=>by
     have q3:=flat_list_get hf (rg:=some r) i c q1;rcases ro_inv hv2 hvv with⟨h3,_⟩ | ⟨b',off,s',f',h3,h4,h5,h6,h7⟩
     ·rw[h3]at q3;cases q3
     ·cases h3;have hss:s' =b.n:=by rw[<-h6 i c q3,flat_list_length i c q1]
      subst hss;exact⟨_,(h7 i c k q q3 q2).1,(h7 i c k q q3 q2).2⟩
    refine .full _ _ _ _ bb (base+loOf ρ lo*b.n) ys.length (cap - loOf ρ lo) cs (fun i k=>cs.getD (base+loOf ρ lo*b.n+(i*b.n+k)) undef) ⟨hh0.trans hvv,hrf.own,hrf.heap,by simp,h1,by have:=hrf.hmax;omega,?_,hrf.pos,fun i c hc=>by rw[flat_list_length i c hc,hbn],fun i c k q q1 q2=> ?_,fun i c k q q1 q2=> ?_,fun h=>by cases h⟩
    ·have:=hrf.fit;rw[<-hbn]at this ⊢;rw[Nat.sub_mul];have:loOf ρ lo*b.n<=cap*b.n:=Nat.mul_le_mul_right _ (by omega);omega
    ·obtain⟨u,hu,_⟩:=hcellT i c k q q1 q2;rw[cell_of_row w bb _ cs e (0,0) hrf.heap]at hu;rw[<-hbn,Array.getD_eq_getD_getElem?,hu];rfl
    ·obtain⟨u,hu,hr⟩:=hcellT i c k q q1 q2;rw[cell_of_row w bb _ cs e (0,0) hrf.heap]at hu;have hq:=flat_list_get hf (rg:=none) i c q1;rw[List.getElem?_map,Option.map_eq_some_iff]at hq;obtain⟨y2,hy2,rfl⟩:=hq;show CRep w g1 q (cs.getD (base+loOf ρ lo*b.n+(i*b.n+k)) undef);rw[Array.getD_eq_getD_getElem?,hu];exact scal_rep hr (flat_scal b y2 k q hf q2)
theorem assign'_ok (hN:d<X.N)(h:stepAssign' X.P st d x= .ok s):QStep X D Γ st ⟨some d,.assign x,ty,ps,af,gd⟩ s:=by
 unfold stepAssign' at h;obtain⟨v,hv,h⟩:=ok_bind h;split at h
 ·rename_i r lo hi' xx;obtain⟨st1,h1,h⟩:=ok_bind h;simp only[Except.ok.injEq]at h;subst h;intro ρ ρ' a w g hi hw he;have:=evalB_nil he;subst this;have hr:CRep w g ((SC.hs r lo hi' xx).enc ρ') (a.eval x):=val_rep hi hv;obtain⟨g1,hi1,q1,_⟩:=commit_ok hi h1 hr;exact⟨_,fun _ _=>rfl,g1,hi1.put hN (.hd _ _ q1.symm)⟩
 ·rename_i hnot;refine assign_ok hN h fun r lo hi' v' e0=> ?_
  rw[hv]at e0;cases e0;exact hnot _ _ _ _ rfl
theorem appHole_ok (hN:d<X.N){r:Nat}{lo hi' :Option At}{xx:At}{sy:SV}(hx:st.val x= .ok (.c (.hs r lo hi' xx)))(hy:st.val y= .ok sy)(h:appHole X.P st d t r xx sy= .ok s):
 WStep X D Γ false st ⟨some d,.call { callee:= .builtin .append,args:= #[x,y],argTypes:= #[t,t] },ty,ps,af,gd⟩ s:=by
 unfold appHole at h;split at h
 case h_2=>cases h
 rename_i src;obtain⟨v2,hl,h⟩:=ok_bind h;obtain⟨st1,h1,h⟩:=ok_bind h;split at h
 case h_2=>cases h
 rename_i e e' b v nl he hr1;by_cases hc:(e=e'∧v2.ty st.ts=some (.sl e b)/\xx.ty st.ts=some (.sl e b)/\0<bytesOf X.P e/\zeroN X.P e=some b.n/\st.wf=true/\st.dirty.isEmpty=true)
 case neg=>rw[if_pos hc]at h;cases h
 rw[if_neg (fun hh=>hh hc)]at h;simp only[Except.ok.injEq]at h;subst h;obtain⟨rfl,hv2t,hxt,hby0,hz,_,hdty⟩:=hc;have hdty:st.dirty=[]:=by simpa using hdty
 intro ρ ρ' a w g hi hw hk hev;have hcom:=h1;unfold commitSt at hcom;split at hcom
 case h_2=>cases hcom
 rename_i e2 b2 v0 nl0 hr0;split at hcom
 case isFalse=>cases hcom
 rename_i hc2;obtain⟨hf,hxt2,hbn,h0,hfix,hk0⟩:=hc2;rw[hxt]at hxt2;simp only[Option.some.injEq,Ty.sl.injEq]at hxt2;obtain⟨rfl,rfl⟩:=hxt2;have hfix:st.fix.contains r=false:=by simpa using hfix
 have hxr:CRep w g ((SC.hs r lo hi' xx).enc ρ) (a.eval x):=val_rep hi hx;have hyr:CRep w g (src.enc ρ) (a.eval y):=val_rep hi hy;obtain⟨g1,hi1,q1,q2,q3,q4⟩:=commit_ok hi h1 hxr;simp only[Except.ok.injEq]at hcom;have hxg:=V.list_of (At.ty_get hi.typ hxt);have hvg2:=V.list_of (At.ty_get hi.typ hv2t);have hty2:st.ty v2= .ok (.sl e b):=by unfold St.ty;rw[hv2t]
 obtain⟨A,cap2,fn,hye,hcells,hreps⟩:=src_view hi hf hbn h0 hyr hl hty2;generalize hys:(v2.get ρ).as (.sl e b)=ys at hye hcells hreps hvg2

 have hrk1:st1.rk r= .list e b xx false none\/st1.rk r= .dead:=by rw[<-hcom];exact setR_rk _ _ _
 have hrow1:RowRep X.P w g1 (r,[]) (.row false false e (((xx.get ρ).as (.sl e b)).mapIdx fun i y=>encIn none r i b y)):=by
  rcases hrk1 with e0 | e0
  ·exact row_of hi1 e0
  ·rw[e0]at hr1;cases hr1
 generalize hxs:(xx.get ρ).as (.sl e b)=xs at hrow1 hxg;obtain⟨v',hv',rfl⟩:=evalB_one hev;simp only[Ex.den1,Ex.den,hxg,hvg2,V.as_self,Option.bind_eq_some_iff,Option.some.injEq]at hv';obtain⟨zs,hzs',rfl⟩:=hv';obtain⟨fit1,fit2,rfl⟩:=gapp_ok hzs';obtain⟨ti,z,hinfo,hzero,hzs⟩:=zeroN_spec hz;have hu:=elem_under he;have hl1:(xs.mapIdx fun i y=>encIn none r i b y).length=xs.length:=by simp
 have hl2:(List.map (enc none b) ys).length=ys.length:=by simp
 have hs1:∀(i:Nat) (c:List C),(xs.mapIdx fun i y=>encIn none r i b y)[i]? =some c->c.length=szOf X.P e:=fun i c hc=>by rw[flat_list_length i c hc,hbn]
 have hs2:∀(i:Nat) (c:List C),(List.map (enc none b) ys)[i]? =some c->c.length=szOf X.P e:=fun i c hc=>by
  rw[List.getElem?_map,Option.map_eq_some_iff]at hc;obtain⟨y2,_,rfl⟩:=hc;rw[enc_length,hbn]
 have hsc1:∀(i:Nat) (c:List C) (k:Nat) (q:C),(xs.mapIdx fun i y=>encIn none r i b y)[i]? =some c->c[k]? =some q->(∃kd z,q= .int kd z)\/(∃bv,q= .bool bv):=fun i c k q h1 h2=>by
  have hq:=flat_list_get hf (rg:=none) i c h1;rw[List.getElem?_map,Option.map_eq_some_iff]at hq;obtain⟨y2,_,rfl⟩:=hq;exact flat_scal b y2 k q hf h2
 have hsc2:∀(i:Nat) (c:List C) (k:Nat) (q:C),(List.map (enc none b) ys)[i]? =some c->c[k]? =some q->(∃kd z,q= .int kd z)\/(∃bv,q= .bool bv):=fun i c k q h1 h2=>by
  rw[List.getElem?_map,Option.map_eq_some_iff]at h1;obtain⟨y2,_,rfl⟩:=h1;exact flat_scal b y2 k q hf h2
 have hCs:∀{q:C} {pl:Loc->Prop} {pr:Rg->Prop},((∃kd z,q= .int kd z)\/(∃bv,q= .bool bv))->C.Ok pl pr q:=fun {q pl pr} h=>by
  rcases h with⟨kd,z,rfl⟩ | ⟨bv,rfl⟩
  ·exact .int _ _
  ·exact .bool _
 obtain⟨v1,w',g2,hrun,hA,hrw⟩:=append_core (t:=t) (ty:=ty) (A:=A) (cap2:=cap2) (fn:=fn) (els2:=List.map (enc none b) ys) hi1.inv.ok hrow1 hu hinfo hzero (by rw[hzs,hbn]) (by omega) hs1 hs2 (by simp only[hl1,hl2,gfit,decide_eq_true_eq];exact⟨fit1,fit2⟩) hby0 (fun hne=>by
  obtain⟨ad,h2,h3⟩:=hcells (fun e0=>hne (by rw[e0];rfl));exact⟨ad,h2,fun i k h4 h5=>h3 i k (by rw[hl2]at h4;exact h4) h5⟩) (fun i c k q h1 h2=>by
  have hsc:=hsc2 i c k q h1 h2;rw[List.getElem?_map,Option.map_eq_some_iff]at h1;obtain⟨y2,hy2,rfl⟩:=h1;have hr:=hreps i y2 k q hy2 h2;exact⟨scal_rep hr hsc,scal_one hr hsc⟩) (fun i c k q h1 h2=>hCs (hsc1 i c k q h1 h2)) (fun i c k q h1 h2=>hCs (hsc2 i c k q h1 h2))
 rw[hl2,q1]at hrun;have hexec:(execOp a.eval ⟨some d,.call { callee:= .builtin .append,args:= #[x,y],argTypes:= #[t,t] },ty,ps,af,gd⟩).run X.P w= .ok (.value v1) w' :=by
  simp only[execOp,resolve,invoke,builtin,Sem.run_bind,Sem.run_pure,Result.andThen_ok,List.map_toArray,List.map_cons,List.map_nil,hye,hrun]
 unfold Oper.wp;rw[hexec];refine⟨fun e=>(by cases e),?_⟩;have hi2:=hi.bindOne hw (v:=⟨.sl e b,xs++ys⟩) rfl;have hok:=hi.inv.ok;have S:Stab (st.bind (.sl e b)).nr true r w g w' g2:=⟨fun l h1 h2 h3=>by
  have hne:l≠(r,[]):=fun e0=>by subst e0;rcases h1 with h1 | h1;cases h1;exact h1 rfl
  rw[hA.hdr l hne,q4 l hne],fun rg hne2 _ b0 hb0=>by
  cases rg with
  | none=>
   have hS:g.S b0:=hb0;exact⟨by show g2.S b0;rw[hA.S,q3];exact hS,hA.keep b0 (hok.S b0 hS).1 fun ho=>(hok.own b0 _ (by rw[<-q2];exact ho)).2.2 hS⟩
  | some r' =>
   rcases hb0 with hS | ⟨q,ho⟩
   ·exact⟨.inl (by rw[hA.S,q3];exact hS),hA.keep b0 (hok.S b0 hS).1 fun ho=>(hok.own b0 _ (by rw[<-q2];exact ho)).2.2 hS⟩
   ·exact⟨.inr ⟨q,hA.own _ _ (by rw[q2];exact ho)⟩,hA.keep b0 (hok.own b0 _ ho).2.1 fun ho2=>by rw[q2,ho]at ho2;cases ho2;exact hne2 rfl⟩⟩
 have hval:((At.r ⟨st.nx,[]⟩).get (ρ++[⟨.sl e b,xs++ys⟩])).as (.sl e b)=xs++ys:=by
  have h2:(At.r ⟨st.nx,[]⟩).get (ρ++[⟨.sl e b,xs++ys⟩])=⟨.sl e b,xs++ys⟩:=ref_get hi.len;rw[h2];exact V.as_self _ _
 have hm:TInv X D { (((st.bind (.sl e b)).kill true r).setR r (.list e b (.r ⟨st.nx,[]⟩) false none))with dirty:=st.dirty } (ρ++[⟨.sl e b,xs++ys⟩]) a w' g2:=by
  refine hi2.mut (rok_bind hk _) S hA.ok _ (fun p row hp=> ?_) (fun _=>hfix) (fun b0 l hl ho=>⟨hA.own _ _ (by rw[q2];exact ho),hA.keep b0 (hok.own b0 _ ho).2.1 fun ho2=>by rw[q2,ho]at ho2;cases ho2;exact hl rfl⟩) st.dirty ⟨fun b0 hb0=>absurd hb0 (noD hi hdty b0),fun r0 b0 q hq=>by rw[hdty]at hq;cases hq⟩;cases p with
  | cons q p=>
   obtain⟨_,rfl,y',_,hs⟩:=rows_cons_list hp;rw[flat_noRow _ _ _ _ hf]at hs;cases hs
  | nil=>
   rw[rows_nil_list,hval]at hp;cases hp;have hel:((xs++ys).mapIdx fun i y=>encIn none r i b y)=(xs.mapIdx fun i y=>encIn none r i b y)++List.map (enc none b) ys:=by
    apply List.ext_getElem?;intro i;rw[List.getElem?_mapIdx,List.getElem?_append,List.getElem?_append,hl1];split
    ·rw[List.getElem?_mapIdx]
    ·rw[List.getElem?_map]
     congr 1
     funext y2
     simp only[encIn,encE_flat r i none 0 b y2 hf]
   rw[hel];exact hrw
 exact⟨g2,TInv.put hm hN (.hd _ _ hA.top.symm)⟩
end
end Go.Pu
/-
  Own work. The law of operations.
-/
namespace Go.Pu
open Go Go.RowKit
set_option linter.unusedVariables false
theorem arr_of {α:Type}{xs:Array α}{l:List α}(h:xs.toList=l):xs=l.toArray:=by subst h;simp
theorem call_okD {X:Ctx}{D:Nat->Prop}{Γ:List FE}{ss:List Sig}{st:St}{d:Nat}{x:Operand}{ty:TypeId}{ps:String}{af:Array Edge}{gd:Option (Nat×Bool)}{s:Step}{nr:Bool}(hS:Specs X.P ss Γ)(hN:d<X.N){args:Array Operand}{ats:Array TypeId}{f:FuncId}{caps:List SC}(hx:st.val x= .ok (.c (.fn f caps)))(h:stepCall st ss d f args.toList caps= .ok s)
 (hnr:nr=true->∀sg,findS st ss f args.toList=some sg->sg.flags.isEmpty=true):WStep X D Γ nr st ⟨some d,.call { callee:= .value x,args:=args,argTypes:=ats },ty,ps,af,gd⟩ s:=by
 have hd:st.dirty=[]:=by
  unfold stepCall at h;split at h
  ·split at h
   ·cases h
   ·rename_i hc;have hc:=Decidable.of_not_not hc;simpa using hc
  ·cases h
 intro ρ ρ' a w g hi hw hk hev;have hn:=noD hi hd;have hi0:TInv X NoD st ρ a w g:=⟨hi.typ,hi.inv,hi.fixd,fun b hb=>hb.elim,fun r b q hq=>by rw[hd]at hq;cases hq⟩;refine Oper.wp_mono (fun a' w' q=>⟨fun e=>⟨(q.1 e).1,fun b hb _=>(q.1 e).2 b hb id⟩,?_⟩) (call_ok hS hN hx h hnr ρ ρ' a w g hi0 hw hk hev);obtain⟨g',h'⟩:=q.2;exact⟨g',h'.typ,h'.inv,h'.fixd,fun b hb=>absurd hb (hn b),fun r b q hq ho hne=>(h'.dirt.2 r b q hq ho hne).elim⟩
theorem op_law {X:Ctx}{Γ:List FE}{ss:List Sig}(hS:Specs X.P ss Γ):OpLaw X Γ ss:=by
 intro D st o s nr hd h hnr;obtain⟨dst,op,ty,ps,af,gd⟩:=o;unfold stepOp at h;have dlt:∀d,dst=some d->d<X.N:=fun d e=>by subst e;simpa[dstOk]using hd
 simp only at h dlt;split at h
 ·exact⟨fun _=>move_ok (dlt _ rfl) h,fun e=>by cases e⟩
 ·exact⟨fun _=>assign'_ok (dlt _ rfl) h,fun e=>by cases e⟩
 ·exact⟨fun _=>pick_ok (dlt _ rfl) h,fun e=>by cases e⟩
 ·exact⟨fun _=>bin_ok (dlt _ rfl) h,fun e=>by cases e⟩
 ·exact⟨fun _=>not_ok (dlt _ rfl) h,fun e=>by cases e⟩
 ·exact⟨fun _=>neg_ok (dlt _ rfl) h,fun e=>by cases e⟩
 ·exact⟨fun _=>conv_ok (dlt _ rfl) h,fun e=>by cases e⟩
 ·exact⟨fun _=>nilCheck_ok (dlt _ rfl) h,fun e=>by cases e⟩
 ·exact⟨fun _=>extract_ok (dlt _ rfl) h,fun e=>by cases e⟩
 ·exact⟨fun e=>(by cases e),fun _=>alloc_ok (dlt _ rfl) h⟩
 ·exact⟨fun e=>(by cases e),fun _=>box_ok (dlt _ rfl) h⟩
 ·exact⟨fun e=>(by cases e),fun _=>build_ok (dlt _ rfl) h⟩
 ·exact⟨fun e=>(by cases e),fun _=>buildSlice'_ok (dlt _ rfl) h⟩
 ·exact⟨fun e=>(by cases e),fun _=>make_ok (dlt _ rfl) h⟩
 ·exact⟨fun _=>makeFunc_ok (dlt _ rfl) h,fun e=>by cases e⟩
 ·simp only[Except.ok.injEq]at h;subst h;exact⟨fun e=>(by cases e),fun _=>makeMap_ok (dlt _ rfl)⟩
 ·exact⟨fun _=>load_ok (dlt _ rfl) h,fun e=>by cases e⟩
 ·exact⟨fun _=>lookup_ok (dlt _ rfl) h,fun e=>by cases e⟩
 ·refine⟨fun e=>(by cases e),fun _=> ?_⟩;have e:nr=false:=by
   cases nr with
   | false=>rfl
   | true=>exact absurd (hnr rfl) (by simp[nrOk])
  subst e;exact mapUpdate_ok h
 ·refine⟨fun e=>(by cases e),fun _=> ?_⟩;have e:nr=false:=by
   cases nr with
   | false=>rfl
   | true=>exact absurd (hnr rfl) (by simp[nrOk])
  subst e;exact store'_ok h
 ·exact⟨fun _=>fieldAddr_ok (dlt _ rfl) h,fun e=>by cases e⟩
 ·exact⟨fun _=>field_ok (dlt _ rfl) h,fun e=>by cases e⟩
 ·exact⟨fun _=>indexAddr_ok (dlt _ rfl) h,fun e=>by cases e⟩
 ·exact⟨fun _=>slice_ok (dlt _ rfl) h,fun e=>by cases e⟩
 ·rename_i c d;obtain⟨callee,args,ats⟩:=c;simp only at h;split at h
  ·rename_i x t h1 h2;have e1:=arr_of h1;have e2:=arr_of h2;subst e1 e2;exact⟨fun _=>len_ok (dlt _ rfl) h,fun e=>by cases e⟩
  ·rename_i x y h1;have e1:=arr_of h1;subst e1;exact⟨fun _=>minmax_ok (mn:=true) (dlt _ rfl) h,fun e=>by cases e⟩
  ·rename_i x y h1;have e1:=arr_of h1;subst e1;exact⟨fun _=>minmax_ok (mn:=false) (dlt _ rfl) h,fun e=>by cases e⟩
  ·rename_i x y t t' h1 h2;have e1:=arr_of h1;have e2:=arr_of h2;subst e1 e2;split at h
   ·rename_i e;subst e;unfold stepApp at h;obtain⟨vx,hvx,h⟩:=ok_bind h;refine⟨fun e=>(by cases e),fun _=> ?_⟩;split at h
    ·rename_i r i k xx;refine appHn_ok (dlt _ rfl) hvx (fun e=> ?_) h;have:=hnr e;simpa[nrOk,hvx,SV.isNil,hnDirty]using this
    ·rename_i r lo hi' xx;obtain⟨vy,hvy,h⟩:=ok_bind h;have e:nr=false:=by
      cases nr with
      | false=>rfl
      | true=>exact absurd (hnr rfl) (by simp[nrOk,hvx,SV.isNil,hnDirty])
     subst e;exact appHole_ok (dlt _ rfl) hvx hvy h
    ·rename_i hnot _;obtain⟨vy,hvy,h⟩:=ok_bind h;have hnil:nr=true->vx.isNil=true:=fun e=>by
      have:=hnr e;simp only[nrOk,List.head?_cons,Option.map_some,hvx,Bool.or_eq_true]at this;rcases this with h1 | h1
      ·exact h1
      ·unfold hnDirty at h1;split at h1
       ·exact absurd rfl (hnot _ _ _ _)
       ·cases h1
     split at h
     ·split at h
      ·split at h
       ·exact append_ok (dlt _ rfl) hvx hvy h hnil
       ·exact stepAppNest_ok (dlt _ rfl) hvx hvy h hnil
      ·cases h
     ·cases h
   ·cases h
  ·rename_i x h1;obtain⟨v,hv,h⟩:=ok_bind h;split at h
   ·rename_i f caps;refine⟨fun e=>(by cases e),fun _=>call_okD hS (dlt _ rfl) hv h fun e sg hsg=> ?_⟩;have:=hnr e;simpa[nrOk,hv,hsg]using this
   ·cases h
  ·cases h
 ·cases h
theorem spec {P:Program}{ss:List Sig}{Γ:List FE}{an:Ann}{s:Sig}{stm:Stm}{fn:s.p.den->Option s.r.den}(hm:P.follows .mixedOrders=true)(hS:Specs P ss Γ)(h:cFunc P ss an s= .ok stm)
 (hname : (match P.funcs[s.f]? with | some F => F.name == "runtime.NumGoroutine" | none => true) = false) (hfn : ∀ x, fn x = stm.den Γ [] s.r [⟨s.p, x⟩]) : CallSpec P s fn :=
 spec_of hm (fun X hX=>by subst hX;exact op_law hS) h hname hfn
end Go.Pu
/-
  Own work. From what the row's reading says of the arguments to the contract's arguments, and back.
-/
namespace Go.Pu
open Go Go.ChangeShapes Go.WideShapes Go.ChangeAt Go.RowKit
set_option linter.unusedVariables false
def InR:(t:Ty)->t.den->Prop
 | .int _,z=> -9223372036854775808<=z/\z<=9223372036854775807
 | .bool,_=>True
 | .unit,_=>True
 | .pr a b,x=>InR a x.1/\InR b x.2
 | .sl _ a,xs=>List.length xs<=maxLen/\∀(y:a.den),y∈(show List a.den from xs)->InR a y
 | .mp,_=>True
def inRow (P:Program):List Field->Nat->Nat->Bool
 | [],o,m=>Nat.beq o m
 | f::fs,o,m=>Nat.beq f.offset o && inRow P fs (o+P.cellsOf f.type) m
def okT (P:Program):Nat->TypeId->Bool
 | 0,_=>false
 | n+1,t=>match P.underlying t with
  | some (.int .i64)=>true
  | some (.int .u8)=>true
  | some .bool=>true
  | some (.slice e)=>Nat.blt 0 (P.cellsOf e) && okT P n e
  | some (.struct fs)=>inRow P fs.toList 0 (P.cellsOf t) && fs.toList.all (fun f=>okT P n f.type)
  | _=>false
theorem cell_lt {w:World}{a:Addr}{v:Value}(h:w.cell? a=some v):a.block<w.heap.size/\a.spot=none:=by
 unfold World.cell? at h;cases hh:w.heap[a.block]? with
 | none=>rw[hh]at h;cases h
 | some o=>
  rw[hh]at h;refine⟨(Array.getElem?_eq_some_iff.1 hh).1,?_⟩;cases o with
  | cells c _ _=>
   simp only at h;split at h
   ·cases h
   ·rename_i hs;simpa using hs
  | _=>cases h
theorem mapM_get {α β:Type}(f:α->Option β):∀(l:List α) (r:List β),l.mapM f=some r->r.length=l.length/\∀(i:Nat) (x:α),l[i]? =some x->f x=r[i]?
 | [],r,h=>by
  simp at h;subst h;simp
 | a::l,r,h=>by
  rw[List.mapM_cons]at h;cases hf:f a with
  | none=>rw[hf]at h;cases h
  | some b=>
   rw[hf]at h;cases hm:l.mapM f with
   | none=>rw[hm]at h;cases h
   | some bs=>
    rw[hm]at h;obtain rfl:b::bs=r:=by simpa using h
    obtain⟨h1,h2⟩:=mapM_get f l bs hm;refine⟨by simp[h1],fun i x hx=> ?_⟩;cases i with
    | zero=>simp at hx;subst hx;simpa using hf
    | succ i=>simpa using h2 i x (by simpa using hx)
theorem cells_get {w:World}{base:Nat}{a:Addr}{n:Nat}{vs:List Value}(h:w.cells? base a n=some vs):vs.length=n/\∀i,i<n->w.cell? (a.add i)=vs[i]? :=by
 unfold World.cells? at h;split at h
 ·obtain⟨h1,h2⟩:=mapM_get _ _ _ h;rw[List.length_range]at h1;exact⟨h1,fun i hi=>h2 i i (by simp[hi])⟩
 ·cases h
theorem addrAdd {a:Addr}(h:a.spot=none)(n:Nat):a.add n=⟨a.block,a.off+n,none⟩:=by
 unfold Addr.add;split
 ·rename_i h0;subst h0;cases a;simp_all
 ·rfl
theorem choose_list {α:Type}(p:Nat->α->Prop):∀n:Nat,(∀i,i<n->∃x,p i x)->∃l:List α,l.length=n/\∀(i:Nat) (x:α),l[i]? =some x->p i x
 | 0,_=>⟨[],rfl,by simp⟩
 | n+1,h=>by
  obtain⟨l,h1,h2⟩:=choose_list p n (fun i hi=>h i (by omega));obtain⟨x,hx⟩:=h n (by omega);refine⟨l++[x],by simp[h1],fun i y hy=> ?_⟩;rw[List.getElem?_append]at hy;split at hy
  ·exact h2 i y hy
  ·rename_i hge;have:i=n:=by
    by_cases e:i - l.length=0
    ·omega
    ·obtain⟨m,hm⟩:=Nat.exists_eq_succ_of_ne_zero e;rw[hm]at hy;simp at hy
   subst this;have e0:i - l.length=0:=by omega
   rw[e0]at hy;simp at hy;subst hy;exact hx
theorem inRow_le {P:Program}:∀(fs:List Field) (o m:Nat),inRow P fs o m=true->o<=m
 | [],o,m,h=>by simp only[inRow,Nat.beq_eq]at h;omega
 | f::fs,o,m,h=>by
  simp only[inRow,Bool.and_eq_true,Nat.beq_eq]at h;have:=inRow_le fs _ m h.2;omega
def allG (w:World):G:={ S:=fun b=>b<w.heap.size,own:=fun _=>none,hdr:=fun _=>undef }
def CellsC (w:World)(qs:List C)(cs:List Value):Prop:=qs.length=cs.length/\∀(k:Nat) (q:C),qs[k]? =some q->∃u,cs[k]? =some u/\CRep w (allG w) q u
theorem CellsC.append {w:World}{xs ys:List C}{cs ds:List Value}(h1:CellsC w xs cs)(h2:CellsC w ys ds):CellsC w (xs++ys) (cs++ds):=by
 refine⟨by simp[h1.1,h2.1],fun k x hk=> ?_⟩;rw[List.getElem?_append]at hk ⊢;rw[<-h1.1];split at hk
 ·rename_i hl;rw[if_pos hl];exact h1.2 k x hk
 ·rename_i hl;rw[if_neg hl];exact h2.2 _ x hk
theorem struct_open {P:Program}{w:World}{cs:List Value}{n:Nat}:∀(fs:List Field) (o:Nat) (ty:Ty),inRow P fs o cs.length=true->structTy (fs.map fun f=>tyId P n f.type)=some ty->
 (∀f:Field,f∈fs->∀ty,tyId P n f.type=some ty->∃x:ty.den,InR ty x/\CellsC w (enc none ty x) ((cs.drop f.offset).take (P.cellsOf f.type)))->∃x:ty.den,InR ty x/\CellsC w (enc none ty x) (cs.drop o)
 | [],o,ty,h,ht,_=>by
  simp only[inRow,Nat.beq_eq]at h;subst h;simp only[List.map_nil,structTy,Option.some.injEq]at ht;subst ht;exact⟨(),trivial,by rw[List.drop_length];exact⟨rfl,fun k q h=>by simp[enc]at h⟩⟩
 | f::fs,o,ty,h,ht,hq=>by
  simp only[inRow,Bool.and_eq_true,Nat.beq_eq]at h;obtain⟨h1,h2⟩:=h;subst h1;have hle:=inRow_le _ _ _ h2;have esplit:cs.drop f.offset=(cs.drop f.offset).take (P.cellsOf f.type)++cs.drop (f.offset+P.cellsOf f.type):=by
   rw[<-List.drop_drop,List.take_append_drop]
  cases fs with
  | nil=>
   simp only[List.map_cons,List.map_nil,structTy]at ht;obtain⟨x,hx1,hx2⟩:=hq f (by simp) ty ht;refine⟨x,hx1,?_⟩;simp only[inRow,Nat.beq_eq]at h2;have:(cs.drop f.offset).take (P.cellsOf f.type)=cs.drop f.offset:=List.take_of_length_le (by rw[List.length_drop];omega)
   rwa [this]at hx2
  | cons f2 fs=>
   simp only[List.map_cons,structTy]at ht;cases h3:tyId P n f.type with
   | none=>rw[h3]at ht;cases ht
   | some a=>
    cases h4:structTy ((f2::fs).map fun f=>tyId P n f.type)with
    | none=>
     rw[h3]at ht;simp only[List.map_cons]at h4;rw[h4]at ht;cases ht
    | some b=>
     rw[h3]at ht;have h4' :=h4;simp only[List.map_cons]at h4;rw[h4]at ht;simp only[Option.some.injEq]at ht;subst ht;obtain⟨x,hx1,hx2⟩:=hq f (by simp) a h3;obtain⟨y,hy1,hy2⟩:=struct_open (f2::fs) _ b h2 h4' (fun g hg=>hq g (by simp[hg]));refine⟨(x,y),⟨hx1,hy1⟩,?_⟩;simp only[enc];rw[esplit];exact hx2.append hy2
theorem open_gen {H:Type}{en:TypeId×Value->H}{P:Program}{w:World}{spare:Nat->Bool}{held:Bool}:
 ∀(n fuel:Nat) (t:TypeId) (ty:Ty) (cs:List Value) (y:DataW H×List MemPlace),okT P n t=true->tyId P n t=some ty->DataW.trod en P w 0 spare held fuel t cs=some y->∃x:ty.den,InR ty x/\CellsC w (enc none ty x) cs
 | 0,_,_,_,_,_,ho,_,_=>by cases ho
 | n+1,fuel,t,ty,cs,y,ho,ht,h=>by
  unfold okT at ho;unfold tyId at ht;cases hu:P.underlying t with
  | none=>rw[hu]at ho;cases ho
  | some d=>
   rw[hu]at ho ht;cases d with
   | int k=>
    cases k with
    | i64=>
     simp only[Option.some.injEq]at ht;subst ht;obtain⟨z,rfl,_,hw⟩:=DataW.trod_int hu h;have hz: -9223372036854775808<=z/\z<=9223372036854775807:=by
      have:=hw;simp only[Lit.wf,Bool.and_eq_true,decide_eq_true_eq]at this;exact this
     exact⟨z,hz,rfl,fun k x hk=>by
      cases k with
      | zero=>simp[enc]at hk;subst hk;exact⟨_,rfl,.int _ z⟩
      | succ k=>simp[enc]at hk⟩
    | u8=>
     simp only[Option.some.injEq]at ht;subst ht;obtain⟨z,rfl,_,hw⟩:=DataW.trod_int hu h;have hz:0<=z/\z<=255:=by
      have:=hw;simp only[Lit.wf,Bool.and_eq_true,decide_eq_true_eq]at this;exact this
     have hz: -9223372036854775808<=z/\z<=9223372036854775807:=by omega
     exact⟨z,hz,rfl,fun k x hk=>by
      cases k with
      | zero=>simp[enc]at hk;subst hk;exact⟨_,rfl,.int _ z⟩
      | succ k=>simp[enc]at hk⟩
    | _=>cases ho
   | bool=>
    simp only[Option.some.injEq]at ht;subst ht;obtain⟨b,rfl,_⟩:=DataW.trod_bool hu h;exact⟨b,trivial,rfl,fun k x hk=>by
     cases k with
     | zero=>simp[enc]at hk;subst hk;exact⟨_,rfl,.bool b⟩
     | succ k=>simp[enc]at hk⟩
   | slice e=>
    simp only[Bool.and_eq_true,Nat.blt_eq]at ho;simp only at ht;cases hte:tyId P n e with
    | none=>rw[hte]at ht;cases ht
    | some a=>
     rw[hte]at ht;simp only[Option.some.injEq]at ht;subst ht;rcases DataW.trod_slice hu h with⟨rfl,_⟩ | ⟨ad,len,cap,elems,rest,m,_,rfl,_,_,hc,hm,hlen,hel,_⟩
     ·exact⟨([]:List a.den),⟨by simp,fun y hy=>by simp at hy⟩,rfl,fun k x hk=>by
       cases k with
       | zero=>simp[enc]at hk;subst hk;exact⟨_,rfl,.ro0 _ _ _⟩
       | succ k=>simp[enc]at hk⟩
     ·have hone:∀i,i<len->∃x:a.den,InR a x/\a.n=P.cellsOf e/\∃vs:List Value,vs.length=P.cellsOf e/\(∀k,k<P.cellsOf e->w.cell? ((ad.add (i*P.cellsOf e)).add k)=vs[k]?)/\CellsC w (enc none a x) vs:=by
       intro i hi;have:=hel i hi;cases hcs:w.cells? 0 (ad.add (i*P.cellsOf e)) (P.cellsOf e)with
       | none=>rw[hcs]at this;simp at this;omega
       | some vs=>
        rw[hcs]at this;simp only[Option.bind_some]at this;have hlt:i<elems.length:=by omega
        rw[List.getElem?_eq_getElem hlt]at this;obtain⟨c,hc1,hc2⟩:=open_gen n m e a vs _ ho.2 hte this;obtain⟨hv1,hv2⟩:=cells_get hcs;exact⟨c,hc1,by rw[<-hv1,<-hc2.1,enc_length],vs,hv1,hv2,hc2⟩
      obtain⟨els,hl,hp⟩:=choose_list _ len hone;by_cases h0:len=0
      ·subst h0;exact⟨([]:List a.den),⟨by simp,fun y hy=>by simp at hy⟩,rfl,fun k x hk=>by
        cases k with
        | zero=>simp[enc]at hk;subst hk;exact⟨_,rfl,.ro0 _ _ _⟩
        | succ k=>simp[enc]at hk⟩
      ·obtain⟨c0,_,_,vs0,hv0,hw0,_⟩:=hone 0 (by omega);have hb:=cell_lt (w:=w) (a:=(ad.add (0*P.cellsOf e)).add 0) (v:=vs0[0]'(by omega)) (by rw[hw0 0 ho.1,List.getElem?_eq_getElem (by omega)]);have hadd0:(ad.add (0*P.cellsOf e)).add 0=ad:=by simp[Addr.add]
       rw[hadd0]at hb;have hsp:=hb.2;have hadd:∀i k,(ad.add (i*P.cellsOf e)).add k=⟨ad.block,ad.off+(i*P.cellsOf e+k),none⟩:=fun i k=>by
        rw[addrAdd hsp,addrAdd rfl];simp[Nat.add_assoc]
       have ha:ad=⟨ad.block,ad.off,none⟩:=by cases ad;simp_all
       refine⟨els,⟨by show els.length<=maxLen;omega,fun c hc=> ?_⟩,rfl,fun k x hk=> ?_⟩
       ·obtain⟨i,hi⟩:=List.getElem?_of_mem hc;exact(hp i c hi).1
       ·cases k with
        | succ k=>simp[enc]at hk
        | zero=>
         simp only[enc,List.getElem?_cons_zero,Option.some.injEq]at hk;subst hk;refine⟨_,rfl,?_⟩;rw[ha];have get:∀(i:Nat) (c:List C),(List.map (enc none a) els)[i]? =some c->∃y,els[i]? =some y/\c=enc none a y:=fun i c hi=>by
          rw[List.getElem?_map,Option.map_eq_some_iff]at hi;obtain⟨y,hy,rfl⟩:=hi;exact⟨y,hy,rfl⟩
         refine .ro none _ ad.block ad.off len cap (P.cellsOf e) (fun i k=>(w.cell? ⟨ad.block,ad.off+(i*P.cellsOf e+k),none⟩).getD undef) (by rw[List.length_map];exact hl.symm) hc hm hb.1 ho.1 (fun i c hi=> ?_) (fun i c k x hi hk=> ?_) (fun i c k x hi hk=> ?_)
         ·obtain⟨y,hy,rfl⟩:=get i c hi;rw[enc_length];exact(hp i y hy).2.1
         ·obtain⟨y,hy,rfl⟩:=get i c hi;obtain⟨_,h1,vs,h2,h3,h4⟩:=hp i y hy;obtain⟨u,hu1,hu2⟩:=h4.2 k x hk;have hk' :k<P.cellsOf e:=by rw[<-h1,<-enc_length none a y];exact(List.getElem?_eq_some_iff.1 hk).1
          have:=h3 k hk';rw[hadd,hu1]at this;rw[this];rfl
         ·obtain⟨y,hy,rfl⟩:=get i c hi;obtain⟨_,h1,vs,h2,h3,h4⟩:=hp i y hy;obtain⟨u,hu1,hu2⟩:=h4.2 k x hk;have hk' :k<P.cellsOf e:=by rw[<-h1,<-enc_length none a y];exact(List.getElem?_eq_some_iff.1 hk).1
          have:=h3 k hk';rw[hadd,hu1]at this;rw[this];exact hu2
   | struct fs=>
    simp only[Bool.and_eq_true]at ho;obtain⟨ys,m,_,_,hlen,hys,hf⟩:=DataW.trod_struct hu h;have hfld:∀(i:Nat) (f:Field),fs[i]? =some f->∀ty,tyId P n f.type=some ty->∃x:ty.den,InR ty x/\CellsC w (enc none ty x) ((cs.drop f.offset).take (P.cellsOf f.type)):=by
     intro i f hi ty hty;have:=hf i f hi;have hlt:i<ys.length:=by rw[hys];exact(Array.getElem?_eq_some_iff.1 hi).1
     rw[List.getElem?_eq_getElem hlt]at this;exact open_gen n m f.type ty _ _ (List.all_eq_true.1 ho.2 f (by rw[<-Array.getElem?_toList]at hi;exact List.mem_of_getElem? hi)) hty this
    have:=struct_open (P:=P) (w:=w) (cs:=cs) (n:=n) fs.toList 0 ty (by rw[hlen];exact ho.1) ht (fun f hf' =>by
     obtain⟨i,hi⟩:=List.getElem?_of_mem hf';exact hfld i f (by rwa [Array.getElem?_toList]at hi))
    rwa [List.drop_zero]at this
   | _=>cases ho
end Go.Pu
/-
  Own work. From the contract of a law's function to the row.
-/
namespace Go.Pu
open Go Go.ChangeShapes Go.WideShapes Go.ChangeAt Go.RowKit
set_option linter.unusedVariables false
def ArgRep (w:World)(agg:Bool)(ty:Ty)(x:ty.den)(v:Value):Prop:=if agg then AggRep w (allG w) (enc none ty x) v else ∃q,enc none ty x=[q]/\CRep w (allG w) q v
theorem open_one {H:Type}{en:TypeId×Value->H}{P:Program}{w:World}{spare:Nat->Bool}{held:Bool}{base:Nat}{t:TypeId}{ty:Ty}{v:Value}{d:DataW H}{ps:List MemPlace}(ho:okT P 20 t=true)(ht:tyId P 20 t=some ty)
 (hv:Value.okWide P w .any base t v) (h:DataW.Trod en P w 0 spare held t v d ps):∃x:ty.den,InR ty x/\ArgRep w (isAggT P t) ty x v:=by
 obtain⟨fuel,hf⟩:=h;obtain⟨x,h1,h2,h3⟩:=open_gen 20 fuel t ty _ _ ho ht hf;refine⟨x,h1,?_⟩;have one:v.cells= #[v]->isAggT P t=false->ArgRep w (isAggT P t) ty x v:=fun hc ha=>by
  unfold ArgRep;rw[ha];simp only[Bool.false_eq_true,if_false];rw[hc]at h2 h3
  match hq:enc none ty x,h2,h3 with
  | [q],_,h3=>
   obtain⟨u,hu,hr⟩:=h3 0 q rfl;simp only[List.getElem?_cons_zero,Option.some.injEq]at hu;subst hu;exact⟨q,rfl,hr⟩
  | [],h2,_=>simp at h2
  | _::_::_,h2,_=>simp at h2
 unfold okT at ho;cases hu:P.underlying t with
 | none=>rw[hu]at ho;cases ho
 | some dd=>
  rw[hu]at ho;cases dd with
  | struct fs=>
   obtain⟨cs,rfl,hsz⟩:=okWide_struct hu hv;have ha:isAggT P t=true:=by simp[isAggT,aggOf,hu]
   unfold ArgRep;rw[ha];refine⟨cs,rfl,by simpa[Value.cells]using h2.symm,fun k q hk=> ?_⟩;obtain⟨u,hu1,hu2⟩:=h3 k q hk;exact⟨u,by simpa[Value.cells]using hu1,hu2⟩
  | int k=>
   obtain⟨z,rfl⟩:=okWide_int hu hv;exact one rfl (by simp[isAggT,aggOf,hu])
  | bool=>
   obtain⟨z,rfl⟩:=okWide_bool hu hv;exact one rfl (by simp[isAggT,aggOf,hu])
  | slice e=>
   obtain⟨a,l,c,rfl⟩:=okWide_slice hu hv;exact one rfl (by simp[isAggT,aggOf,hu])
  | _=>cases ho
def valSig (P:Program):List TypeId->List Par->Bool
 | [],[]=>true
 | t::ts,.val agg ty::ps=>(agg==isAggT P t) && decide (tyId P 20 t=some ty) && valSig P ts ps
 | _,_=>false
theorem prod_cons (t:Ty)(ts:List Ty)(x:t.den)(y:(prod ts).den):∃z:(prod (t::ts)).den,(InR t x->InR (prod ts) y->InR (prod (t::ts)) z)/\V.proj ⟨prod (t::ts),z⟩ (partPath (ts.length+1) 0)=⟨t,x⟩/\
 ∀i,i<ts.length->V.proj ⟨prod (t::ts),z⟩ (partPath (ts.length+1) (i+1))=V.proj ⟨prod ts,y⟩ (partPath ts.length i):=by
 cases ts with
 | nil=>exact⟨x,fun h _=>h,rfl,fun i h=>by simp at h⟩
 | cons t1 ts=>exact⟨(x,y),fun h1 h2=>⟨h1,h2⟩,rfl,fun i _=>rfl⟩
theorem open_all {H:Type}{en:TypeId×Value->H}{P:Program}{w:World}{spare:Nat->Bool}{held:Bool}{base:Nat}:∀(ts:List TypeId) (pp:List Par) (vs:List Value) (ds:List (DataW H)) (ps:List MemPlace),ts.all (okT P 20)=true->valSig P ts pp=true->
 (∀(j:Nat) t v,ts[j]? =some t->vs[j]? =some v->Value.okWide P w .any base t v)->DataW.TrodAll en P w 0 spare held ts vs ds ps->
 ds.length=ts.length/\vs.length=pp.length/\∃x:(prod (pp.map Par.ty)).den,InR (prod (pp.map Par.ty)) x/\∀(i:Nat) (agg:Bool) (ty:Ty),pp[i]? =some (.val agg ty)->∃v,vs[i]? =some v/\∃y:ty.den,V.proj ⟨prod (pp.map Par.ty),x⟩ (partPath pp.length i)=⟨ty,y⟩/\ArgRep w agg ty y v
 | [],[],[],[],ps,_,_,_,_=>⟨rfl,rfl,(),trivial,fun i agg ty h=>by simp at h⟩
 | t::ts,.val agg ty::pp,v::vs,d::ds,ps,ho,hs,hv,h=>by
  obtain⟨p,q,h1,h2,_⟩:=h;simp only[List.all_cons,Bool.and_eq_true]at ho;simp only[valSig,Bool.and_eq_true,beq_iff_eq,decide_eq_true_eq]at hs;obtain⟨⟨rfl,hty⟩,hs⟩:=hs;obtain⟨x,hx1,hx2⟩:=open_one ho.1 hty (hv 0 t v rfl rfl) h1;obtain⟨hl,hl2,y,hy1,hy2⟩:=open_all ts pp vs ds q ho.2 hs (fun j t v h3 h4=>hv (j+1) t v (by simpa using h3) (by simpa using h4)) h2;obtain⟨z,z1,z2,z3⟩:=prod_cons ty (pp.map Par.ty) x y;rw[List.length_map]at z2 z3;refine⟨by simp[hl],by simp[hl2],z,z1 hx1 hy1,fun i agg' ty' hi=> ?_⟩;cases i with
  | zero=>
   simp only[List.getElem?_cons_zero,Option.some.injEq,Par.val.injEq]at hi;obtain⟨rfl,rfl⟩:=hi;exact⟨v,rfl,x,z2,hx2⟩
  | succ i=>
   have hi' :pp[i]? =some (.val agg' ty'):=by simpa using hi
   obtain⟨v',q1,y',q2,q3⟩:=hy2 i agg' ty' hi';exact⟨v',by simpa using q1,y',by rw[<-q2];exact z3 i (List.getElem?_eq_some_iff.1 hi').1,q3⟩
 | [],[],[],_::_,_,_,_,_,h=>h.elim
 | [],[],_::_,_,_,_,_,_,h=>h.elim
 | [],_::_,_,_,_,_,hs,_,_=>by simp[valSig]at hs
 | _::_,[],_,_,_,_,hs,_,_=>by simp[valSig]at hs
 | _::_,.val _ _::_,[],_,_,_,_,_,h=>h.elim
 | _::_,.val _ _::_,_::_,[],_,_,_,_,h=>h.elim
 | _::_,.ptr _::_,_,_,_,_,hs,_,_=>by simp[valSig]at hs
 | _::_,.own _ _ _::_,_,_,_,_,hs,_,_=>by simp[valSig]at hs
 | _::_,.iob _ _::_,_,_,_,_,hs,_,_=>by simp[valSig]at hs
 | _::_,.tok _ _::_,_,_,_,_,hs,_,_=>by simp[valSig]at hs
 | _::_,.fn _ _::_,_,_,_,_,hs,_,_=>by simp[valSig]at hs
theorem valSig_get {P:Program}:∀(ts:List TypeId) (pp:List Par),valSig P ts pp=true->∀(i:Nat) (p:Par),pp[i]? =some p->∃agg ty,p= .val agg ty
 | [],[],_,i,p,h=>by simp at h
 | t::ts,.val agg ty::pp,hs,i,p,h=>by
  simp only[valSig,Bool.and_eq_true]at hs;cases i with
  | zero=>simp only[List.getElem?_cons_zero,Option.some.injEq]at h;exact⟨agg,ty,h.symm⟩
  | succ i=>exact valSig_get ts pp hs.2 i p (by simpa using h)
 | [],_::_,hs,_,_,_=>by simp[valSig]at hs
 | _::_,[],hs,_,_,_=>by simp[valSig]at hs
 | _::_,.ptr _::_,hs,_,_,_=>by simp[valSig]at hs
 | _::_,.own _ _ _::_,hs,_,_,_=>by simp[valSig]at hs
 | _::_,.iob _ _::_,hs,_,_,_=>by simp[valSig]at hs
 | _::_,.tok _ _::_,hs,_,_,_=>by simp[valSig]at hs
 | _::_,.fn _ _::_,hs,_,_,_=>by simp[valSig]at hs
theorem pre_law {P:Program}{s:Sig}{w:World}{args:Array Value}{ts:List TypeId}{x:s.p.den}(hs:valSig P ts s.ps=true)(hl:args.size=s.ps.length)
 (h:∀(i:Nat) (agg:Bool) (ty:Ty),s.ps[i]? =some (.val agg ty)->∃v,args.toList[i]? =some v/\∃y:ty.den,V.proj ⟨s.p,x⟩ (partPath s.ps.length i)=⟨ty,y⟩/\ArgRep w agg ty y v):Pre P s x w (allG w) args:=by
 refine⟨hl,fun i=> ?_,fun l row hr=> ?_,fun b hb=>hb,fun b l hl=>by cases hl⟩
 ·have hsl:(preSt s).slot i=((s.ps[i]?).map (parSlot s.ps.length (0+i) (0+nb s.ps i))).getD .junk:=by
   unfold St.slot preSt;simp only[List.getD];rw[initSlots_get]
  rw[hsl];cases hp:s.ps[i]? with
  | none=>trivial
  | some p=>
   obtain⟨agg,ty,rfl⟩:=valSig_get ts s.ps hs i p hp;obtain⟨v,h1,y,h2,h3⟩:=h i agg ty hp;have hv:args.getD i undef=v:=by
    rw[Array.getD_eq_getD_getElem?,<-Array.getElem?_toList,h1];rfl
   rw[hv];simp only[Option.map_some,Option.getD_some,Nat.zero_add,parSlot];have hc:=cellsOf_enc none 0 [⟨s.p,x⟩] ty (partPath s.ps.length i) y h2;unfold ArgRep at h3;cases agg with
   | true=>
    simp only[if_true]at h3;simp only[slotOf,if_true,SV.enc,hc];exact h3
   | false=>
    simp only[Bool.false_eq_true,if_false]at h3;obtain⟨q,hq,hr⟩:=h3;rw[hq]at hc;simp only[slotOf,Bool.false_eq_true,if_false];cases hcs:cellsOf none 0 (partPath s.ps.length i) ty with
    | nil=>rw[hcs]at hc;simp[encL]at hc
    | cons c cs=>
     rw[hcs]at hc;simp only[encL,List.cons.injEq]at hc;simp only[SV.enc,PRep,hc.1];exact hr
 ·obtain⟨j,p⟩:=l;have hr:RK.rows [⟨s.p,x⟩] j ((preSt s).rk j) p=some row:=hr;have:(preSt s).rk j= .dead:=by
   unfold St.rk preSt;simp only[List.getD];cases hj:(initRoots s.ps.length 0 0 s.ps)[j]? with
   | none=>rfl
   | some k' =>
    obtain⟨i,p',q,hp,hq,_⟩:=initRoots_get _ _ _ _ _ _ hj;obtain⟨agg,ty,rfl⟩:=valSig_get ts s.ps hs i p' hp;simp[parRoots]at hq
  rw[this,rows_dead]at hr;cases hr
theorem below_all {H:Type}{enc:TypeId×Value->H}{P:Program}(hl:laidOutB P=true){W W' :World}(hb:Below W.heap.size W W'):∀(ts:List TypeId) (vs:List Value) (ds:List (DataW H)) (ps:List MemPlace),
 ts.all (fun t=>P.readableRec t && Nat.blt t P.types.size)=true->DataW.TrodAll enc P W 0 (fun _=>true) true ts vs ds ps->(∀x∈ps,x.block<W.heap.size)->∀sp:Nat->Bool,(∀x∈ps,sp x.block=true)->DataW.TrodAll enc P W' 0 sp true ts vs ds ps
 | [],[],[],ps,_,h,_,_,_=>h
 | t::ts,v::vs,d::ds,ps,ho,h,hlt,sp,hsp=>by
  obtain⟨p,q,h1,h2,rfl⟩:=h;simp only[List.all_cons,Bool.and_eq_true,Nat.blt_eq]at ho;refine⟨p,q,?_,below_all hl hb ts vs ds q ho.2 h2 (fun x hx=>hlt x (by simp[hx])) sp (fun x hx=>hsp x (by simp[hx])),rfl⟩;exact WideElems.Trod_stays hl ho.1.1 ho.1.2 h1 (fun x hx=>hb.same (hlt x (by simp[hx]))) (fun x hx=>hsp x (by simp[hx]))
 | [],_::_,_,_,_,h,_,_,_=>h.elim
 | [],[],_::_,_,_,h,_,_,_=>h.elim
 | _::_,[],_,_,_,h,_,_,_=>h.elim
 | _::_,_::_,[],_,_,h,_,_,_=>h.elim
section
variable {H:Type} {enc:TypeId×Value->H} {P:Program}
theorem post_of_below' {f:Func}{s:ChangeSpec}{apart fresh handsOn again:Bool}{W W' :World}{args:Array Value}{v:Value}{ds gs:List (DataW H)}{before pa pv:List MemPlace}
 (hW:DataW.Whole enc P f.params.toList s.vars apart W args.toList ds gs before)
 (hres:∀(b:Nat) (sp:Nat->Bool) (hd:Bool),DataW.TrodAll enc P W' b sp hd f.resultTypes.toList (v.resultList f.resultTypes.size) (s.fn H (ds++gs)).results [])
 (hargs:∀sp:Nat->Bool,(∀p∈before,sp p.block=true)->DataW.TrodAll enc P W' 0 sp true f.params.toList args.toList (s.fn H (ds++gs)).args pa)
 (hvars:∀sp:Nat->Bool,(∀p∈before,sp p.block=true)->DataW.TrodVars enc P W' sp s.vars (s.fn H (ds++gs)).vars pv)
 (hps:before=pa++pv) (hb:Below W.heap.size W W')
 (hok:∀(j:Nat) (t:TypeId) (r:Value),f.resultTypes[j]? =some t->(v.resultList f.resultTypes.size)[j]? =some r->Value.okWide P W' .any 0 t r):
 s.post enc P f apart fresh handsOn again W args v W' :=by
 have hlt:∀p∈before,p.block<W.heap.size:=fun p hp=>hW.lt p hp
 have hold:∀p∈before,(fun b=>decide (b<W.heap.size)) p.block=true:=fun p hp=>by simpa using hlt p hp
 refine⟨ds,gs,before,[],pa,pv,hW,hres _ _ _,hargs _ hold,hvars _ hold,World.keptBut_mono (fun p hp=>⟨hp,?_⟩) (hb.frame (·∈before)),fun _=> ?_⟩
 ·rw[hps,List.mem_append]at hp;exact Or.inr hp
 ·obtain⟨_,_,_,_,_,hz,hn⟩:=hW;refine⟨hok,_,_,([]++pa)++pv,⟨[]++pa,pv,trodAll_append (hargs _ (fun _ _=>rfl)) (hres _ _ _),hvars _ (fun _ _=>rfl),rfl,?_,?_⟩,?_⟩
  ·intro b off hp;have hin:MemPlace.cell b off∈before:=by rw[hps];simpa using hp
   rw[hb.frozen (hlt _ hin)];exact hz b off hin
  ·intro ha;have:=hn ha;rw[hps]at this;simpa using this
  ·intro p hp _;rw[hps];simpa using hp
end
theorem law_post {H:Type}{enc:TypeId×Value->H}{P:Program}{fn:Func}{s:ChangeSpec}{tb:TypeId}{sg:Sig}{F:sg.p.den->Option sg.r.den}(hl:laidOutB P=true)(hro:fn.params.toList.all (fun t=>P.readableRec t && Nat.blt t P.types.size)=true)(hok:fn.params.toList.all (okT P 20)=true)
 (hvs:valSig P fn.params.toList sg.ps=true) (hslot:(postSt sg).slots=[.c (.v (.r ⟨0,[]⟩))])
 (hres:fn.resultTypes= #[tb]) (htb:P.underlying tb=some .bool) (hvar:s.vars=[]) (hfn:∀ds:List (DataW H),ds.length=fn.params.size->s.fn H (ds++[])={ results:=[.lit (.bool true)],args:=ds })
 (hlaw:∀x,InR sg.p x->∃y,F x=some y/\V.c ⟨sg.r,y⟩= .bool true) (hspec:CallSpec P sg F)
 (W:World) (base:Nat) (args:Array Value) (ds gs:List (DataW H)) (before:List MemPlace) (hval:∀(j:Nat) t v,fn.params[j]? =some t->args[j]? =some v->Value.okWide P W .any base t v)
 (hW:DataW.Whole enc P fn.params.toList s.vars false W args.toList ds gs before):
 Calls P sg.f args W fun e W' =>∃v,e= .returned v/\s.post enc P fn false true false false W args v W' :=by
 have hW' :=hW;obtain⟨p,q,hA,hV,rfl,hfz,hnd⟩:=hW;rw[hvar]at hV;obtain⟨rfl,rfl⟩:=trodVars_none hV;have hlt:∀x∈p++[],x.block<W.heap.size:=fun p hp=>hW'.lt p hp
 obtain⟨hdl,hvl,x,h1,h2⟩:=open_all (P:=P) fn.params.toList sg.ps args.toList ds p hok hvs (fun j t v ht hv=>hval j t v (by simpa using ht) (by simpa using hv)) hA;obtain⟨y,hy1,hy2⟩:=hlaw x h1;refine(hspec.run x y W (allG W) args (pre_law hvs (by simpa using hvl) h2) hy1).mono fun e W' hP=> ?_
 obtain⟨v,rfl,hpost⟩:=hP;obtain⟨hchg,g',_,_,hp,_⟩:=hpost;have hL:Below W.heap.size W W' :=(hchg.of (O:=fun _=>False) (B:=W.heap.size) fun k hk _=>⟨hk,fun⟨l,hl⟩=>by cases hl⟩).lat;have hv:v= .bool true:=by
  have hsl:(postSt sg).slot 0= .c (.v (.r ⟨0,[]⟩)):=by unfold St.slot;rw[hslot];rfl
  rw[hsl]at hp;have hp:CRep W' g' (V.c ⟨sg.r,y⟩) v:=by simpa[SV.enc,SC.enc,At.get,Ref.get,List.getD,V.proj,PRep]using hp
  rw[hy2]at hp;exact crep_bool hp
 subst hv;have hf:=hfn ds (by simpa using hdl);refine⟨_,rfl,post_of_below' (pa:=p) (pv:=[]) hW' (fun b sp hd=> ?_) (fun sp hsp=> ?_) (fun sp _=> ?_) rfl hL ?_⟩
 ·rw[hf,hres];exact trodAll_cons_mk (shut_bool htb _) trodAll_mk0
 ·rw[hf];have:=below_all hl hL fn.params.toList args.toList ds p hro hA (fun x hx=>hlt x (by simp[hx])) sp (fun x hx=>hsp x (by simp[hx]));simpa using this
 ·rw[hf,hvar];rfl
 ·exact ok_one hres rfl (okWide_bool_mk htb _)
end Go.Pu
/-
  Own work. Contracts gathered.
-/
namespace Go.Pu
open Go Go.RowKit
theorem Specs.nil {P:Program}:Specs P [] []:=fun s h=>by cases h
theorem Specs.cons {P:Program}{s:Sig}{ss:List Sig}{Γ:List FE}{fn:s.p.den->Option s.r.den}(h:CallSpec P s fn)(hs:Specs P ss Γ)(hk:ss.all (fun s' => !(Nat.beq s.key s'.key))=true):Specs P (s::ss) (⟨s.key,s.p,s.r,fn⟩::Γ):=fun s' hm=>by
 rcases List.mem_cons.1 hm with rfl | hm
 ·exact⟨fn,by simp[findF],h⟩
 ·obtain⟨fn',h1,h2⟩:=hs s' hm;refine⟨fn',?_,h2⟩;have:=List.all_eq_true.1 hk s' hm;simp only[Bool.not_eq_true']at this;simp only[findF];rw[if_neg (fun e=>by rw[e,Nat.beq_refl]at this;cases this)];exact h1
abbrev i0:Bool:=false
abbrev i1:Bool:=true
abbrev i6:IntKind:= .i64
abbrev tI:Ty:= .int .i64
abbrev tB:Ty:= .bool
abbrev tP (a b:Ty):Ty:= .pr a b
abbrev tS (e:TypeId)(a:Ty):Ty:= .sl e a
abbrev aV (n:Nat):At:= .r ⟨n,[]⟩
abbrev aR (n:Nat)(p:List Bool):At:= .r ⟨n,p⟩
abbrev aI (z:Int):At:= .int .i64 z
abbrev sV (x:At):SC:= .v x
abbrev sW (x:At):SV:= .c (.v x)
abbrev sB (e:Ex)(s:Stm):Stm:= .bind e s
abbrev sI (x:At)(s t:Stm):Stm:= .ite x s t
abbrev sL (t:Ty)(xs:List At)(s:Stm):Stm:= .loop t xs s
abbrev sJ (t:Ty)(s k:Stm):Stm:= .join t s k
abbrev sN (t:Ty)(xs:List At):Stm:= .next t xs
abbrev sU (s:Stm):Stm:= .lift s
abbrev sR (t:Ty)(xs:List At):Stm:= .ret t xs
end Go.Pu
/-
  Own work. Contracts bundled with their functions; the statement of a body is worked out, not printed.
-/
namespace Go.Pu
open Go Go.RowKit
structure SP (P:Program) where
 s:Sig
 fn:s.p.den->Option s.r.den
 ok:CallSpec P s fn
def SP.e {P:Program}(c:SP P):FE:=⟨c.s.key,c.s.p,c.s.r,c.fn⟩
theorem specsOf {P:Program}:∀(l:List (SP P)),nodup (l.map fun c=>c.s.key)=true->Specs P (l.map SP.s) (l.map SP.e)
 | [],_=>Specs.nil
 | c::l,h=>by
  simp only[List.map_cons,nodup,Bool.and_eq_true,Bool.not_eq_true']at h;refine Specs.cons c.ok (specsOf l h.2) (List.all_eq_true.2 fun s' hs=> ?_);obtain⟨c',hc,rfl⟩:=List.mem_map.1 hs;cases hb:Nat.beq c.s.key c'.s.key with
  | false=>rfl
  | true=>
   have e:=Nat.eq_of_beq_eq_true hb;have:(l.map fun c=>c.s.key).contains c.s.key=true:=by
    rw[List.contains_iff_mem,e];exact List.mem_map.2 ⟨c',hc,rfl⟩
   rw[h.1]at this;cases this
def kOk {P : Program} (cs : List (SP P)) (s : Sig) : Bool := nodup (cs.map fun c => c.s.key) && !(match P.funcs[s.f]? with | some F => F.name == "runtime.NumGoroutine" | none => true)
def cOk {P:Program}(cs:List (SP P))(an:Ann)(s:Sig):Bool:=kOk cs s && (match cFunc P (cs.map SP.s) an s with | .ok _=>true | .error _=>false)
def cStm {P:Program}(cs:List (SP P))(an:Ann)(s:Sig):Stm:=match cFunc P (cs.map SP.s) an s with | .ok x=>x | .error _=> .next .unit []
noncomputable def cDen {P:Program}(cs:List (SP P))(an:Ann)(s:Sig):s.p.den->Option s.r.den:=fun x=>(cStm cs an s).den (cs.map SP.e) [] s.r [⟨s.p,x⟩]
theorem specT {P:Program}{s:Sig}{fn:s.p.den->Option s.r.den}(cs:List (SP P))(an:Ann)(stm:Stm)(hm:P.follows .mixedOrders=true)(hk:kOk cs s=true)(h:cFunc P (cs.map SP.s) an s= .ok stm)(hf:(fun x=>stm.den (cs.map SP.e) [] s.r [⟨s.p,x⟩])=fn):CallSpec P s fn:=by
 unfold kOk at hk;rw[Bool.and_eq_true,Bool.not_eq_true']at hk;exact spec hm (specsOf cs hk.1) h hk.2 (fun x=>by rw[<-hf])
theorem specC {P:Program}{s:Sig}{fn:s.p.den->Option s.r.den}(cs:List (SP P))(an:Ann)(hm:P.follows .mixedOrders=true)(h:cOk cs an s=true)(hf:cDen cs an s=fn):CallSpec P s fn:=by
 unfold cOk at h;rw[Bool.and_eq_true]at h;cases hc:cFunc P (cs.map SP.s) an s with
 | error e=>rw[hc]at h;cases h.2
 | ok stm=>
  have e:cStm cs an s=stm:=by unfold cStm;rw[hc]
  exact specT cs an stm hm h.1 hc (by rw[<-hf];unfold cDen;rw[e])
end Go.Pu
