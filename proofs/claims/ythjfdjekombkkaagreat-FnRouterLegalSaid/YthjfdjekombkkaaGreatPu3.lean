/-
  Own work: parts PuBj, PuAc, PuAd, PuAe, PuAf, PuAg of my verified compiler.
-/
import Derived.Test.YthjfdjekombkkaaGreatPu2
import Derived.ProofKit
import Derived.OpenShut
import Derived.Carry
import Derived.ChangeSame
import Derived.Lib.SmallJoins
/-
  Own work. Owned lists cut down to a part.
-/
namespace Go.Pu
open Go Go.RowKit
set_option linter.unusedVariables false
set_option linter.unusedSectionVars false
section
variable {X:Ctx} {D:Nat->Prop} {Γ:List FE} {st:St} {ρ:Env} {a:Act} {w w' :World} {g g' :G}
variable {d:Nat} {x y z:Operand} {t t' ty:TypeId} {ps:String} {af:Array Edge} {gd:Option (Nat×Bool)} {s:Step} {nr:Bool}
theorem flat_list_length {b:Ty}{r:Nat}{xs:List b.den}(i:Nat)(c:List C)(h:(xs.mapIdx fun i y=>encIn none r i b y)[i]? =some c):c.length=b.n:=by
 rw[List.getElem?_mapIdx,Option.map_eq_some_iff]at h;obtain⟨y,_,rfl⟩:=h;exact encE_length _ _ _ _ _
theorem flat_list_get {b:Ty}(hf:b.flat=true){r:Nat}{rg:Rg}{xs:List b.den}(i:Nat)(c:List C)(h:(xs.mapIdx fun i y=>encIn none r i b y)[i]? =some c):(List.map (enc rg b) xs)[i]? =some c:=by
 rw[List.getElem?_mapIdx,Option.map_eq_some_iff]at h;obtain⟨y,hy,rfl⟩:=h;rw[List.getElem?_map,hy];simp only[encIn,Option.map_some,encE_flat r i rg 0 b y hf]
theorem ro_inv {rg:Rg}{els:List (List C)}{u:Value}{A:Option Addr}{n c:Nat}(h:CRep w g (.ro rg els) u)(hu:u= .slice A n c):(els=[]/\n=0)\/∃(b off s:Nat) (f:Nat->Nat->Value),A=some ⟨b,off,none⟩/\n=els.length/\n<=c/\
 (∀(i:Nat) (cs:List C),els[i]? =some cs->cs.length=s)/\∀(i:Nat) (cs:List C) (k:Nat) (q:C),els[i]? =some cs->cs[k]? =some q->w.cell? ⟨b,off+(i*s+k),none⟩=some (f i k)/\CRep w g q (f i k):=by
 cases h with
 | ro0 _ A' cap=>cases hu;exact .inl ⟨rfl,rfl⟩
 | ro _ _ b' off n' cap' s' f' hn' hc' hm' hS' hs' hsz' hcell' hrep' =>
  cases hu;exact .inr ⟨b',off,s',f',rfl,hn',hc',hsz',fun i cs k q q1 q2=>⟨hcell' i cs k q q1 q2,hrep' i cs k q q1 q2⟩⟩
theorem commit_ok (hi:TInv X D st ρ a w g){r:Nat}{xx:At}{st1:St}(h:commitSt X.P st r xx= .ok st1){lo hi' :Option At}{v:Value}(hv:CRep w g ((SC.hs r lo hi' xx).enc ρ) v):
 ∃g1,TInv X D st1 ρ a w g1/\g1.hdr (r,[])=v/\g1.own=g.own/\g1.S=g.S/\(∀l,l≠(r,[])->g1.hdr l=g.hdr l):=by
 unfold commitSt at h;split at h
 case h_2=>cases h
 rename_i e b v0 nl hr;split at h
 case isFalse=>cases h
 rename_i hc;obtain⟨hf,hxt,hbn,h0,hfix,hk⟩:=hc;simp only[Except.ok.injEq]at h;subst h;have hfix:st.fix.contains r=false:=by simpa using hfix
 have hrow0:=row_of hi hr;have hxg:=V.list_of (At.ty_get hi.typ hxt);simp only[SC.enc]at hv;have hv1:=both_l hv;have hv2:=both_r hv;rw[hxg]at hv1 hv2;generalize hys:(xx.get ρ).as (.sl e b)=ys at hv1 hv2 hxg;simp only[V.esz,V.len,V.els]at hv1 hv2;have hvv:v=subHdr (g.hdr (r,[])) b.n (loOf ρ lo) ys.length:=by cases hv1;assumption
 let g1:G:={ S:=g.S,own:=g.own,hdr:=fun l=>if l=(r,[])then v else g.hdr l }
 have hh:∀l,l≠(r,[])->g1.hdr l=g.hdr l:=fun l h=>by simp only[g1];rw[if_neg h]
 have hh0:g1.hdr (r,[])=v:=by simp only[g1,if_true]
 have hok:=hi.inv.ok;refine⟨g1,?_,hh0,rfl,rfl,hh⟩;have hm:=hi.mut hk (all:=true) (r:=r) (w' :=w) (g' :=g1) ⟨fun l h1 h2 h3=>hh l (fun e0=>by subst e0;rcases h1 with h1 | h1;cases h1;exact h1 rfl),fun rg _ _ b0 hb0=>⟨hb0,rfl⟩⟩ ⟨hok.chg,hok.base,hok.S,hok.own⟩ (.list e b xx false none) (fun p row hp=> ?_) (fun _=>hfix) (fun b0 l _ hb0=>⟨hb0,rfl⟩) st.dirty hi.dirt
 ·exact hm
 cases p with
 | cons q p=>
  obtain⟨_,rfl,y',_,hs⟩:=rows_cons_list hp;rw[flat_noRow _ _ _ _ hf]at hs;cases hs
 | nil=>
  rw[rows_nil_list,hys]at hp;cases hp;have hnil:ys=[]->(∃A,v= .slice A 0 0)->RowRep X.P w g1 (r,[]) (.row false false e (ys.mapIdx fun i y=>encIn none r i b y)):=fun h1 ⟨A,h2⟩=>by
   subst h1;cases A with
   | none=>exact .nil _ _ (hh0.trans h2)
   | some A=>exact .zero _ A (hh0.trans h2)
  have hle:∀{A:Option Addr} {n c:Nat},v= .slice A n c->n=ys.length->ys.length<=c:=fun {A n c} h1 h2=>by
   rcases ro_inv hv2 h1 with⟨h3,h4⟩ | ⟨b',off,s',f',h3,h4,h5,_⟩
   ·omega
   ·omega
  generalize ((v0.get ρ).as (.sl e b)).mapIdx (fun i y=>encIn none r i b y)=els0 at hrow0;cases hrow0 with
  | nil _ _ hd=>
   rw[hd]at hvv;simp only[subHdr]at hvv;have h1:=hle hvv rfl;have h2:ys.length=0:=by omega
   exact hnil (List.eq_nil_of_length_eq_zero h2) ⟨_,by rw[hvv,h2,Nat.zero_sub]⟩
  | zero _ A hd=>
   rw[hd]at hvv;simp only[subHdr]at hvv;have h1:=hle hvv rfl;have h2:ys.length=0:=by omega
   exact hnil (List.eq_nil_of_length_eq_zero h2) ⟨_,by rw[hvv,h2,Nat.zero_sub]⟩
  | full _ _ _ _ bb base n cap cs f hrf=>
   have hd:g.hdr (r,[])= .slice (some ⟨bb,base,none⟩) n cap:=hrf.hd;rw[hd]at hvv;simp only[subHdr]at hvv;have h1:=hle hvv rfl;by_cases hcl:cap - loOf ρ lo=0
   ·have h2:ys.length=0:=by omega
    exact hnil (List.eq_nil_of_length_eq_zero h2) ⟨_,by rw[hvv,h2,hcl]⟩
   ·have hne:¬cap=loOf ρ lo:=by omega
    rw[if_neg hne]at hvv;simp only[Option.map_some,addr_add]at hvv;have hcellT:∀(i:Nat) (c:List C) (k:Nat) (q:C),(ys.mapIdx fun i y=>encIn none r i b y)[i]? =some c->c[k]? =some q->∃u,w.cell? ⟨bb,base+loOf ρ lo*b.n+(i*b.n+k),none⟩=some u/\CRep w g q u:=fun i c k q q1 q2=>by
     have q3:=flat_list_get hf (rg:=some r) i c q1;rcases ro_inv hv2 hvv with⟨h3,_⟩ | ⟨b',off,s',f',h3,h4,h5,h6,h7⟩
     ·rw[h3]at q3;cases q3
     ·cases h3;have hss:s' =b.n:=by rw[<-h6 i c q3,flat_list_length i c q1]
      subst hss;exact⟨_,(h7 i c k q q3 q2).1,(h7 i c k q q3 q2).2⟩
    refine .full _ _ _ _ bb (base+loOf ρ lo*b.n) ys.length (cap - loOf ρ lo) cs (fun i k=>cs.getD (base+loOf ρ lo*b.n+(i*b.n+k)) undef) ⟨hh0.trans hvv,hrf.own,hrf.heap,by simp,h1,by have:=hrf.hmax;omega,?_,hrf.pos,fun i c hc=>by rw[flat_list_length i c hc,hbn],fun i c k q q1 q2=> ?_,fun i c k q q1 q2=> ?_,fun h=>by cases h⟩
    ·have:=hrf.fit;rw[<-hbn]at this ⊢;rw[Nat.sub_mul];have:loOf ρ lo*b.n<=cap*b.n:=Nat.mul_le_mul_right _ (by omega);omega
    ·obtain⟨u,hu,_⟩:=hcellT i c k q q1 q2;rw[cell_of_row w bb _ cs e (0,0) hrf.heap]at hu;rw[<-hbn,Array.getD_eq_getD_getElem?,hu];rfl
    ·obtain⟨u,hu,hr⟩:=hcellT i c k q q1 q2;rw[cell_of_row w bb _ cs e (0,0) hrf.heap]at hu;have hq:=flat_list_get hf (rg:=none) i c q1;rw[List.getElem?_map,Option.map_eq_some_iff]at hq;obtain⟨y2,hy2,rfl⟩:=hq;show CRep w g1 q (cs.getD (base+loOf ρ lo*b.n+(i*b.n+k)) undef);rw[Array.getD_eq_getD_getElem?,hu];exact scal_rep hr (flat_scal b y2 k q hf q2)
theorem assign'_ok (hN:d<X.N)(h:stepAssign' X.P st d x= .ok s):QStep X D Γ st ⟨some d,.assign x,ty,ps,af,gd⟩ s:=by
 unfold stepAssign' at h;obtain⟨v,hv,h⟩:=ok_bind h;split at h
 ·rename_i r lo hi' xx;obtain⟨st1,h1,h⟩:=ok_bind h;simp only[Except.ok.injEq]at h;subst h;intro ρ ρ' a w g hi hw he;have:=evalB_nil he;subst this;have hr:CRep w g ((SC.hs r lo hi' xx).enc ρ') (a.eval x):=val_rep hi hv;obtain⟨g1,hi1,q1,_⟩:=commit_ok hi h1 hr;exact⟨_,fun _ _=>rfl,g1,hi1.put hN (.hd _ _ q1.symm)⟩
 ·rename_i hnot;refine assign_ok hN h fun r lo hi' v' e0=> ?_
  rw[hv]at e0;cases e0;exact hnot _ _ _ _ rfl
theorem appHole_ok (hN:d<X.N){r:Nat}{lo hi' :Option At}{xx:At}{sy:SV}(hx:st.val x= .ok (.c (.hs r lo hi' xx)))(hy:st.val y= .ok sy)(h:appHole X.P st d t r xx sy= .ok s):
 WStep X D Γ false st ⟨some d,.call { callee:= .builtin .append,args:= #[x,y],argTypes:= #[t,t] },ty,ps,af,gd⟩ s:=by
 unfold appHole at h;split at h
 case h_2=>cases h
 rename_i src;obtain⟨v2,hl,h⟩:=ok_bind h;obtain⟨st1,h1,h⟩:=ok_bind h;split at h
 case h_2=>cases h
 rename_i e e' b v nl he hr1;by_cases hc:(e=e'∧v2.ty st.ts=some (.sl e b)/\xx.ty st.ts=some (.sl e b)/\0<bytesOf X.P e/\zeroN X.P e=some b.n/\st.wf=true/\st.dirty.isEmpty=true)
 case neg=>rw[if_pos hc]at h;cases h
 rw[if_neg (fun hh=>hh hc)]at h;simp only[Except.ok.injEq]at h;subst h;obtain⟨rfl,hv2t,hxt,hby0,hz,_,hdty⟩:=hc;have hdty:st.dirty=[]:=by simpa using hdty
 intro ρ ρ' a w g hi hw hk hev;have hcom:=h1;unfold commitSt at hcom;split at hcom
 case h_2=>cases hcom
 rename_i e2 b2 v0 nl0 hr0;split at hcom
 case isFalse=>cases hcom
 rename_i hc2;obtain⟨hf,hxt2,hbn,h0,hfix,hk0⟩:=hc2;rw[hxt]at hxt2;simp only[Option.some.injEq,Ty.sl.injEq]at hxt2;obtain⟨rfl,rfl⟩:=hxt2;have hfix:st.fix.contains r=false:=by simpa using hfix
 have hxr:CRep w g ((SC.hs r lo hi' xx).enc ρ) (a.eval x):=val_rep hi hx;have hyr:CRep w g (src.enc ρ) (a.eval y):=val_rep hi hy;obtain⟨g1,hi1,q1,q2,q3,q4⟩:=commit_ok hi h1 hxr;simp only[Except.ok.injEq]at hcom;have hxg:=V.list_of (At.ty_get hi.typ hxt);have hvg2:=V.list_of (At.ty_get hi.typ hv2t);have hty2:st.ty v2= .ok (.sl e b):=by unfold St.ty;rw[hv2t]
 obtain⟨A,cap2,fn,hye,hcells,hreps⟩:=src_view hi hf hbn h0 hyr hl hty2;generalize hys:(v2.get ρ).as (.sl e b)=ys at hye hcells hreps hvg2

 have hrk1:st1.rk r= .list e b xx false none\/st1.rk r= .dead:=by rw[<-hcom];exact setR_rk _ _ _
 have hrow1:RowRep X.P w g1 (r,[]) (.row false false e (((xx.get ρ).as (.sl e b)).mapIdx fun i y=>encIn none r i b y)):=by
  rcases hrk1 with e0 | e0
  ·exact row_of hi1 e0
  ·rw[e0]at hr1;cases hr1
 generalize hxs:(xx.get ρ).as (.sl e b)=xs at hrow1 hxg;obtain⟨v',hv',rfl⟩:=evalB_one hev;simp only[Ex.den1,Ex.den,hxg,hvg2,V.as_self,Option.bind_eq_some_iff,Option.some.injEq]at hv';obtain⟨zs,hzs',rfl⟩:=hv';obtain⟨fit1,fit2,rfl⟩:=gapp_ok hzs';obtain⟨ti,z,hinfo,hzero,hzs⟩:=zeroN_spec hz;have hu:=elem_under he;have hl1:(xs.mapIdx fun i y=>encIn none r i b y).length=xs.length:=by simp
 have hl2:(List.map (enc none b) ys).length=ys.length:=by simp
 have hs1:∀(i:Nat) (c:List C),(xs.mapIdx fun i y=>encIn none r i b y)[i]? =some c->c.length=szOf X.P e:=fun i c hc=>by rw[flat_list_length i c hc,hbn]
 have hs2:∀(i:Nat) (c:List C),(List.map (enc none b) ys)[i]? =some c->c.length=szOf X.P e:=fun i c hc=>by
  rw[List.getElem?_map,Option.map_eq_some_iff]at hc;obtain⟨y2,_,rfl⟩:=hc;rw[enc_length,hbn]
 have hsc1:∀(i:Nat) (c:List C) (k:Nat) (q:C),(xs.mapIdx fun i y=>encIn none r i b y)[i]? =some c->c[k]? =some q->(∃kd z,q= .int kd z)\/(∃bv,q= .bool bv):=fun i c k q h1 h2=>by
  have hq:=flat_list_get hf (rg:=none) i c h1;rw[List.getElem?_map,Option.map_eq_some_iff]at hq;obtain⟨y2,_,rfl⟩:=hq;exact flat_scal b y2 k q hf h2
 have hsc2:∀(i:Nat) (c:List C) (k:Nat) (q:C),(List.map (enc none b) ys)[i]? =some c->c[k]? =some q->(∃kd z,q= .int kd z)\/(∃bv,q= .bool bv):=fun i c k q h1 h2=>by
  rw[List.getElem?_map,Option.map_eq_some_iff]at h1;obtain⟨y2,_,rfl⟩:=h1;exact flat_scal b y2 k q hf h2
 have hCs:∀{q:C} {pl:Loc->Prop} {pr:Rg->Prop},((∃kd z,q= .int kd z)\/(∃bv,q= .bool bv))->C.Ok pl pr q:=fun {q pl pr} h=>by
  rcases h with⟨kd,z,rfl⟩ | ⟨bv,rfl⟩
  ·exact .int _ _
  ·exact .bool _
 obtain⟨v1,w',g2,hrun,hA,hrw⟩:=append_core (t:=t) (ty:=ty) (A:=A) (cap2:=cap2) (fn:=fn) (els2:=List.map (enc none b) ys) hi1.inv.ok hrow1 hu hinfo hzero (by rw[hzs,hbn]) (by omega) hs1 hs2 (by simp only[hl1,hl2,gfit,decide_eq_true_eq];exact⟨fit1,fit2⟩) hby0 (fun hne=>by
  obtain⟨ad,h2,h3⟩:=hcells (fun e0=>hne (by rw[e0];rfl));exact⟨ad,h2,fun i k h4 h5=>h3 i k (by rw[hl2]at h4;exact h4) h5⟩) (fun i c k q h1 h2=>by
  have hsc:=hsc2 i c k q h1 h2;rw[List.getElem?_map,Option.map_eq_some_iff]at h1;obtain⟨y2,hy2,rfl⟩:=h1;have hr:=hreps i y2 k q hy2 h2;exact⟨scal_rep hr hsc,scal_one hr hsc⟩) (fun i c k q h1 h2=>hCs (hsc1 i c k q h1 h2)) (fun i c k q h1 h2=>hCs (hsc2 i c k q h1 h2))
 rw[hl2,q1]at hrun;have hexec:(execOp a.eval ⟨some d,.call { callee:= .builtin .append,args:= #[x,y],argTypes:= #[t,t] },ty,ps,af,gd⟩).run X.P w= .ok (.value v1) w' :=by
  simp only[execOp,resolve,invoke,builtin,Sem.run_bind,Sem.run_pure,Result.andThen_ok,List.map_toArray,List.map_cons,List.map_nil,hye,hrun]
 unfold Oper.wp;rw[hexec];refine⟨fun e=>(by cases e),?_⟩;have hi2:=hi.bindOne hw (v:=⟨.sl e b,xs++ys⟩) rfl;have hok:=hi.inv.ok;have S:Stab (st.bind (.sl e b)).nr true r w g w' g2:=⟨fun l h1 h2 h3=>by
  have hne:l≠(r,[]):=fun e0=>by subst e0;rcases h1 with h1 | h1;cases h1;exact h1 rfl
  rw[hA.hdr l hne,q4 l hne],fun rg hne2 _ b0 hb0=>by
  cases rg with
  | none=>
   have hS:g.S b0:=hb0;exact⟨by show g2.S b0;rw[hA.S,q3];exact hS,hA.keep b0 (hok.S b0 hS).1 fun ho=>(hok.own b0 _ (by rw[<-q2];exact ho)).2.2 hS⟩
  | some r' =>
   rcases hb0 with hS | ⟨q,ho⟩
   ·exact⟨.inl (by rw[hA.S,q3];exact hS),hA.keep b0 (hok.S b0 hS).1 fun ho=>(hok.own b0 _ (by rw[<-q2];exact ho)).2.2 hS⟩
   ·exact⟨.inr ⟨q,hA.own _ _ (by rw[q2];exact ho)⟩,hA.keep b0 (hok.own b0 _ ho).2.1 fun ho2=>by rw[q2,ho]at ho2;cases ho2;exact hne2 rfl⟩⟩
 have hval:((At.r ⟨st.nx,[]⟩).get (ρ++[⟨.sl e b,xs++ys⟩])).as (.sl e b)=xs++ys:=by
  have h2:(At.r ⟨st.nx,[]⟩).get (ρ++[⟨.sl e b,xs++ys⟩])=⟨.sl e b,xs++ys⟩:=ref_get hi.len;rw[h2];exact V.as_self _ _
 have hm:TInv X D { (((st.bind (.sl e b)).kill true r).setR r (.list e b (.r ⟨st.nx,[]⟩) false none))with dirty:=st.dirty } (ρ++[⟨.sl e b,xs++ys⟩]) a w' g2:=by
  refine hi2.mut (rok_bind hk _) S hA.ok _ (fun p row hp=> ?_) (fun _=>hfix) (fun b0 l hl ho=>⟨hA.own _ _ (by rw[q2];exact ho),hA.keep b0 (hok.own b0 _ ho).2.1 fun ho2=>by rw[q2,ho]at ho2;cases ho2;exact hl rfl⟩) st.dirty ⟨fun b0 hb0=>absurd hb0 (noD hi hdty b0),fun r0 b0 q hq=>by rw[hdty]at hq;cases hq⟩;cases p with
  | cons q p=>
   obtain⟨_,rfl,y',_,hs⟩:=rows_cons_list hp;rw[flat_noRow _ _ _ _ hf]at hs;cases hs
  | nil=>
   rw[rows_nil_list,hval]at hp;cases hp;have hel:((xs++ys).mapIdx fun i y=>encIn none r i b y)=(xs.mapIdx fun i y=>encIn none r i b y)++List.map (enc none b) ys:=by
    apply List.ext_getElem?;intro i;rw[List.getElem?_mapIdx,List.getElem?_append,List.getElem?_append,hl1];split
    ·rw[List.getElem?_mapIdx]
    ·rw[List.getElem?_map]
     congr 1
     funext y2
     simp only[encIn,encE_flat r i none 0 b y2 hf]
   rw[hel];exact hrw
 exact⟨g2,TInv.put hm hN (.hd _ _ hA.top.symm)⟩
end
end Go.Pu
/-
  Own work. The law of operations.
-/
namespace Go.Pu
open Go Go.RowKit
set_option linter.unusedVariables false
theorem arr_of {α:Type}{xs:Array α}{l:List α}(h:xs.toList=l):xs=l.toArray:=by subst h;simp
theorem call_okD {X:Ctx}{D:Nat->Prop}{Γ:List FE}{ss:List Sig}{st:St}{d:Nat}{x:Operand}{ty:TypeId}{ps:String}{af:Array Edge}{gd:Option (Nat×Bool)}{s:Step}{nr:Bool}(hS:Specs X.P ss Γ)(hN:d<X.N){args:Array Operand}{ats:Array TypeId}{f:FuncId}{caps:List SC}(hx:st.val x= .ok (.c (.fn f caps)))(h:stepCall st ss d f args.toList caps= .ok s)
 (hnr:nr=true->∀sg,findS st ss f args.toList=some sg->sg.flags.isEmpty=true):WStep X D Γ nr st ⟨some d,.call { callee:= .value x,args:=args,argTypes:=ats },ty,ps,af,gd⟩ s:=by
 have hd:st.dirty=[]:=by
  unfold stepCall at h;split at h
  ·split at h
   ·cases h
   ·rename_i hc;have hc:=Decidable.of_not_not hc;simpa using hc
  ·cases h
 intro ρ ρ' a w g hi hw hk hev;have hn:=noD hi hd;have hi0:TInv X NoD st ρ a w g:=⟨hi.typ,hi.inv,hi.fixd,fun b hb=>hb.elim,fun r b q hq=>by rw[hd]at hq;cases hq⟩;refine Oper.wp_mono (fun a' w' q=>⟨fun e=>⟨(q.1 e).1,fun b hb _=>(q.1 e).2 b hb id⟩,?_⟩) (call_ok hS hN hx h hnr ρ ρ' a w g hi0 hw hk hev);obtain⟨g',h'⟩:=q.2;exact⟨g',h'.typ,h'.inv,h'.fixd,fun b hb=>absurd hb (hn b),fun r b q hq ho hne=>(h'.dirt.2 r b q hq ho hne).elim⟩
theorem op_law {X:Ctx}{Γ:List FE}{ss:List Sig}(hS:Specs X.P ss Γ):OpLaw X Γ ss:=by
 intro D st o s nr hd h hnr;obtain⟨dst,op,ty,ps,af,gd⟩:=o;unfold stepOp at h;have dlt:∀d,dst=some d->d<X.N:=fun d e=>by subst e;simpa[dstOk]using hd
 simp only at h dlt;split at h
 ·exact⟨fun _=>move_ok (dlt _ rfl) h,fun e=>by cases e⟩
 ·exact⟨fun _=>assign'_ok (dlt _ rfl) h,fun e=>by cases e⟩
 ·exact⟨fun _=>pick_ok (dlt _ rfl) h,fun e=>by cases e⟩
 ·exact⟨fun _=>bin_ok (dlt _ rfl) h,fun e=>by cases e⟩
 ·exact⟨fun _=>not_ok (dlt _ rfl) h,fun e=>by cases e⟩
 ·exact⟨fun _=>neg_ok (dlt _ rfl) h,fun e=>by cases e⟩
 ·exact⟨fun _=>conv_ok (dlt _ rfl) h,fun e=>by cases e⟩
 ·exact⟨fun _=>nilCheck_ok (dlt _ rfl) h,fun e=>by cases e⟩
 ·exact⟨fun _=>extract_ok (dlt _ rfl) h,fun e=>by cases e⟩
 ·exact⟨fun e=>(by cases e),fun _=>alloc_ok (dlt _ rfl) h⟩
 ·exact⟨fun e=>(by cases e),fun _=>box_ok (dlt _ rfl) h⟩
 ·exact⟨fun e=>(by cases e),fun _=>build_ok (dlt _ rfl) h⟩
 ·exact⟨fun e=>(by cases e),fun _=>buildSlice'_ok (dlt _ rfl) h⟩
 ·exact⟨fun e=>(by cases e),fun _=>make_ok (dlt _ rfl) h⟩
 ·exact⟨fun _=>makeFunc_ok (dlt _ rfl) h,fun e=>by cases e⟩
 ·simp only[Except.ok.injEq]at h;subst h;exact⟨fun e=>(by cases e),fun _=>makeMap_ok (dlt _ rfl)⟩
 ·exact⟨fun _=>load_ok (dlt _ rfl) h,fun e=>by cases e⟩
 ·exact⟨fun _=>lookup_ok (dlt _ rfl) h,fun e=>by cases e⟩
 ·refine⟨fun e=>(by cases e),fun _=> ?_⟩;have e:nr=false:=by
   cases nr with
   | false=>rfl
   | true=>exact absurd (hnr rfl) (by simp[nrOk])
  subst e;exact mapUpdate_ok h
 ·refine⟨fun e=>(by cases e),fun _=> ?_⟩;have e:nr=false:=by
   cases nr with
   | false=>rfl
   | true=>exact absurd (hnr rfl) (by simp[nrOk])
  subst e;exact store_ok h
 ·exact⟨fun _=>fieldAddr_ok (dlt _ rfl) h,fun e=>by cases e⟩
 ·exact⟨fun _=>field_ok (dlt _ rfl) h,fun e=>by cases e⟩
 ·exact⟨fun _=>indexAddr_ok (dlt _ rfl) h,fun e=>by cases e⟩
 ·exact⟨fun _=>slice_ok (dlt _ rfl) h,fun e=>by cases e⟩
 ·rename_i c d;obtain⟨callee,args,ats⟩:=c;simp only at h;split at h
  ·rename_i x t h1 h2;have e1:=arr_of h1;have e2:=arr_of h2;subst e1 e2;exact⟨fun _=>len_ok (dlt _ rfl) h,fun e=>by cases e⟩
  ·rename_i x y h1;have e1:=arr_of h1;subst e1;exact⟨fun _=>minmax_ok (mn:=true) (dlt _ rfl) h,fun e=>by cases e⟩
  ·rename_i x y h1;have e1:=arr_of h1;subst e1;exact⟨fun _=>minmax_ok (mn:=false) (dlt _ rfl) h,fun e=>by cases e⟩
  ·rename_i x y t t' h1 h2;have e1:=arr_of h1;have e2:=arr_of h2;subst e1 e2;split at h
   ·rename_i e;subst e;unfold stepApp at h;obtain⟨vx,hvx,h⟩:=ok_bind h;refine⟨fun e=>(by cases e),fun _=> ?_⟩;split at h
    ·rename_i r i k xx;refine appHn_ok (dlt _ rfl) hvx (fun e=> ?_) h;have:=hnr e;simpa[nrOk,hvx,SV.isNil,hnDirty]using this
    ·rename_i r lo hi' xx;obtain⟨vy,hvy,h⟩:=ok_bind h;have e:nr=false:=by
      cases nr with
      | false=>rfl
      | true=>exact absurd (hnr rfl) (by simp[nrOk,hvx,SV.isNil,hnDirty])
     subst e;exact appHole_ok (dlt _ rfl) hvx hvy h
    ·rename_i hnot _;obtain⟨vy,hvy,h⟩:=ok_bind h;have hnil:nr=true->vx.isNil=true:=fun e=>by
      have:=hnr e;simp only[nrOk,List.head?_cons,Option.map_some,hvx,Bool.or_eq_true]at this;rcases this with h1 | h1
      ·exact h1
      ·unfold hnDirty at h1;split at h1
       ·exact absurd rfl (hnot _ _ _ _)
       ·cases h1
     split at h
     ·split at h
      ·split at h
       ·exact append_ok (dlt _ rfl) hvx hvy h hnil
       ·exact stepAppNest_ok (dlt _ rfl) hvx hvy h hnil
      ·cases h
     ·cases h
   ·cases h
  ·rename_i x h1;obtain⟨v,hv,h⟩:=ok_bind h;split at h
   ·rename_i f caps;refine⟨fun e=>(by cases e),fun _=>call_okD hS (dlt _ rfl) hv h fun e sg hsg=> ?_⟩;have:=hnr e;simpa[nrOk,hv,hsg]using this
   ·cases h
  ·cases h
 ·cases h
theorem spec {P:Program}{ss:List Sig}{Γ:List FE}{an:Ann}{s:Sig}{stm:Stm}{fn:s.p.den->Option s.r.den}(hm:P.follows .mixedOrders=true)(hS:Specs P ss Γ)(h:cFunc P ss an s= .ok stm)
 (hname : (match P.funcs[s.f]? with | some F => F.name == "runtime.NumGoroutine" | none => true) = false) (hfn : ∀ x, fn x = stm.den Γ [] s.r [⟨s.p, x⟩]) : CallSpec P s fn :=
 spec_of hm (fun X hX=>by subst hX;exact op_law hS) h hname hfn
end Go.Pu
/-
  Own work. From what the row's reading says of the arguments to the contract's arguments, and back.
-/
namespace Go.Pu
open Go Go.ChangeShapes Go.WideShapes Go.ChangeAt Go.RowKit
set_option linter.unusedVariables false
def InR:(t:Ty)->t.den->Prop
 | .int _,z=> -9223372036854775808<=z/\z<=9223372036854775807
 | .bool,_=>True
 | .unit,_=>True
 | .pr a b,x=>InR a x.1/\InR b x.2
 | .sl _ a,xs=>List.length xs<=maxLen/\∀(y:a.den),y∈(show List a.den from xs)->InR a y
 | .mp,_=>True
def inRow (P:Program):List Field->Nat->Nat->Bool
 | [],o,m=>Nat.beq o m
 | f::fs,o,m=>Nat.beq f.offset o && inRow P fs (o+P.cellsOf f.type) m
def okT (P:Program):Nat->TypeId->Bool
 | 0,_=>false
 | n+1,t=>match P.underlying t with
  | some (.int .i64)=>true
  | some (.int .u8)=>true
  | some .bool=>true
  | some (.slice e)=>Nat.blt 0 (P.cellsOf e) && okT P n e
  | some (.struct fs)=>inRow P fs.toList 0 (P.cellsOf t) && fs.toList.all (fun f=>okT P n f.type)
  | _=>false
theorem cell_lt {w:World}{a:Addr}{v:Value}(h:w.cell? a=some v):a.block<w.heap.size/\a.spot=none:=by
 unfold World.cell? at h;cases hh:w.heap[a.block]? with
 | none=>rw[hh]at h;cases h
 | some o=>
  rw[hh]at h;refine⟨(Array.getElem?_eq_some_iff.1 hh).1,?_⟩;cases o with
  | cells c _ _=>
   simp only at h;split at h
   ·cases h
   ·rename_i hs;simpa using hs
  | _=>cases h
theorem mapM_get {α β:Type}(f:α->Option β):∀(l:List α) (r:List β),l.mapM f=some r->r.length=l.length/\∀(i:Nat) (x:α),l[i]? =some x->f x=r[i]?
 | [],r,h=>by
  simp at h;subst h;simp
 | a::l,r,h=>by
  rw[List.mapM_cons]at h;cases hf:f a with
  | none=>rw[hf]at h;cases h
  | some b=>
   rw[hf]at h;cases hm:l.mapM f with
   | none=>rw[hm]at h;cases h
   | some bs=>
    rw[hm]at h;obtain rfl:b::bs=r:=by simpa using h
    obtain⟨h1,h2⟩:=mapM_get f l bs hm;refine⟨by simp[h1],fun i x hx=> ?_⟩;cases i with
    | zero=>simp at hx;subst hx;simpa using hf
    | succ i=>simpa using h2 i x (by simpa using hx)
theorem cells_get {w:World}{base:Nat}{a:Addr}{n:Nat}{vs:List Value}(h:w.cells? base a n=some vs):vs.length=n/\∀i,i<n->w.cell? (a.add i)=vs[i]? :=by
 unfold World.cells? at h;split at h
 ·obtain⟨h1,h2⟩:=mapM_get _ _ _ h;rw[List.length_range]at h1;exact⟨h1,fun i hi=>h2 i i (by simp[hi])⟩
 ·cases h
theorem addrAdd {a:Addr}(h:a.spot=none)(n:Nat):a.add n=⟨a.block,a.off+n,none⟩:=by
 unfold Addr.add;split
 ·rename_i h0;subst h0;cases a;simp_all
 ·rfl
theorem choose_list {α:Type}(p:Nat->α->Prop):∀n:Nat,(∀i,i<n->∃x,p i x)->∃l:List α,l.length=n/\∀(i:Nat) (x:α),l[i]? =some x->p i x
 | 0,_=>⟨[],rfl,by simp⟩
 | n+1,h=>by
  obtain⟨l,h1,h2⟩:=choose_list p n (fun i hi=>h i (by omega));obtain⟨x,hx⟩:=h n (by omega);refine⟨l++[x],by simp[h1],fun i y hy=> ?_⟩;rw[List.getElem?_append]at hy;split at hy
  ·exact h2 i y hy
  ·rename_i hge;have:i=n:=by
    by_cases e:i - l.length=0
    ·omega
    ·obtain⟨m,hm⟩:=Nat.exists_eq_succ_of_ne_zero e;rw[hm]at hy;simp at hy
   subst this;have e0:i - l.length=0:=by omega
   rw[e0]at hy;simp at hy;subst hy;exact hx
theorem inRow_le {P:Program}:∀(fs:List Field) (o m:Nat),inRow P fs o m=true->o<=m
 | [],o,m,h=>by simp only[inRow,Nat.beq_eq]at h;omega
 | f::fs,o,m,h=>by
  simp only[inRow,Bool.and_eq_true,Nat.beq_eq]at h;have:=inRow_le fs _ m h.2;omega
def allG (w:World):G:={ S:=fun b=>b<w.heap.size,own:=fun _=>none,hdr:=fun _=>undef }
def CellsC (w:World)(qs:List C)(cs:List Value):Prop:=qs.length=cs.length/\∀(k:Nat) (q:C),qs[k]? =some q->∃u,cs[k]? =some u/\CRep w (allG w) q u
theorem CellsC.append {w:World}{xs ys:List C}{cs ds:List Value}(h1:CellsC w xs cs)(h2:CellsC w ys ds):CellsC w (xs++ys) (cs++ds):=by
 refine⟨by simp[h1.1,h2.1],fun k x hk=> ?_⟩;rw[List.getElem?_append]at hk ⊢;rw[<-h1.1];split at hk
 ·rename_i hl;rw[if_pos hl];exact h1.2 k x hk
 ·rename_i hl;rw[if_neg hl];exact h2.2 _ x hk
theorem struct_open {P:Program}{w:World}{cs:List Value}{n:Nat}:∀(fs:List Field) (o:Nat) (ty:Ty),inRow P fs o cs.length=true->structTy (fs.map fun f=>tyId P n f.type)=some ty->
 (∀f:Field,f∈fs->∀ty,tyId P n f.type=some ty->∃x:ty.den,InR ty x/\CellsC w (enc none ty x) ((cs.drop f.offset).take (P.cellsOf f.type)))->∃x:ty.den,InR ty x/\CellsC w (enc none ty x) (cs.drop o)
 | [],o,ty,h,ht,_=>by
  simp only[inRow,Nat.beq_eq]at h;subst h;simp only[List.map_nil,structTy,Option.some.injEq]at ht;subst ht;exact⟨(),trivial,by rw[List.drop_length];exact⟨rfl,fun k q h=>by simp[enc]at h⟩⟩
 | f::fs,o,ty,h,ht,hq=>by
  simp only[inRow,Bool.and_eq_true,Nat.beq_eq]at h;obtain⟨h1,h2⟩:=h;subst h1;have hle:=inRow_le _ _ _ h2;have esplit:cs.drop f.offset=(cs.drop f.offset).take (P.cellsOf f.type)++cs.drop (f.offset+P.cellsOf f.type):=by
   rw[<-List.drop_drop,List.take_append_drop]
  cases fs with
  | nil=>
   simp only[List.map_cons,List.map_nil,structTy]at ht;obtain⟨x,hx1,hx2⟩:=hq f (by simp) ty ht;refine⟨x,hx1,?_⟩;simp only[inRow,Nat.beq_eq]at h2;have:(cs.drop f.offset).take (P.cellsOf f.type)=cs.drop f.offset:=List.take_of_length_le (by rw[List.length_drop];omega)
   rwa [this]at hx2
  | cons f2 fs=>
   simp only[List.map_cons,structTy]at ht;cases h3:tyId P n f.type with
   | none=>rw[h3]at ht;cases ht
   | some a=>
    cases h4:structTy ((f2::fs).map fun f=>tyId P n f.type)with
    | none=>
     rw[h3]at ht;simp only[List.map_cons]at h4;rw[h4]at ht;cases ht
    | some b=>
     rw[h3]at ht;have h4' :=h4;simp only[List.map_cons]at h4;rw[h4]at ht;simp only[Option.some.injEq]at ht;subst ht;obtain⟨x,hx1,hx2⟩:=hq f (by simp) a h3;obtain⟨y,hy1,hy2⟩:=struct_open (f2::fs) _ b h2 h4' (fun g hg=>hq g (by simp[hg]));refine⟨(x,y),⟨hx1,hy1⟩,?_⟩;simp only[enc];rw[esplit];exact hx2.append hy2
theorem open_gen {H:Type}{en:TypeId×Value->H}{P:Program}{w:World}{spare:Nat->Bool}{held:Bool}:
 ∀(n fuel:Nat) (t:TypeId) (ty:Ty) (cs:List Value) (y:DataW H×List MemPlace),okT P n t=true->tyId P n t=some ty->DataW.trod en P w 0 spare held fuel t cs=some y->∃x:ty.den,InR ty x/\CellsC w (enc none ty x) cs
 | 0,_,_,_,_,_,ho,_,_=>by cases ho
 | n+1,fuel,t,ty,cs,y,ho,ht,h=>by
  unfold okT at ho;unfold tyId at ht;cases hu:P.underlying t with
  | none=>rw[hu]at ho;cases ho
  | some d=>
   rw[hu]at ho ht;cases d with
   | int k=>
    cases k with
    | i64=>
     simp only[Option.some.injEq]at ht;subst ht;obtain⟨z,rfl,_,hw⟩:=DataW.trod_int hu h;have hz: -9223372036854775808<=z/\z<=9223372036854775807:=by
      have:=hw;simp only[Lit.wf,Bool.and_eq_true,decide_eq_true_eq]at this;exact this
     exact⟨z,hz,rfl,fun k x hk=>by
      cases k with
      | zero=>simp[enc]at hk;subst hk;exact⟨_,rfl,.int _ z⟩
      | succ k=>simp[enc]at hk⟩
    | u8=>
     simp only[Option.some.injEq]at ht;subst ht;obtain⟨z,rfl,_,hw⟩:=DataW.trod_int hu h;have hz:0<=z/\z<=255:=by
      have:=hw;simp only[Lit.wf,Bool.and_eq_true,decide_eq_true_eq]at this;exact this
     have hz: -9223372036854775808<=z/\z<=9223372036854775807:=by omega
     exact⟨z,hz,rfl,fun k x hk=>by
      cases k with
      | zero=>simp[enc]at hk;subst hk;exact⟨_,rfl,.int _ z⟩
      | succ k=>simp[enc]at hk⟩
    | _=>cases ho
   | bool=>
    simp only[Option.some.injEq]at ht;subst ht;obtain⟨b,rfl,_⟩:=DataW.trod_bool hu h;exact⟨b,trivial,rfl,fun k x hk=>by
     cases k with
     | zero=>simp[enc]at hk;subst hk;exact⟨_,rfl,.bool b⟩
     | succ k=>simp[enc]at hk⟩
   | slice e=>
    simp only[Bool.and_eq_true,Nat.blt_eq]at ho;simp only at ht;cases hte:tyId P n e with
    | none=>rw[hte]at ht;cases ht
    | some a=>
     rw[hte]at ht;simp only[Option.some.injEq]at ht;subst ht;rcases DataW.trod_slice hu h with⟨rfl,_⟩ | ⟨ad,len,cap,elems,rest,m,_,rfl,_,_,hc,hm,hlen,hel,_⟩
     ·exact⟨([]:List a.den),⟨by simp,fun y hy=>by simp at hy⟩,rfl,fun k x hk=>by
       cases k with
       | zero=>simp[enc]at hk;subst hk;exact⟨_,rfl,.ro0 _ _ _⟩
       | succ k=>simp[enc]at hk⟩
     ·have hone:∀i,i<len->∃x:a.den,InR a x/\a.n=P.cellsOf e/\∃vs:List Value,vs.length=P.cellsOf e/\(∀k,k<P.cellsOf e->w.cell? ((ad.add (i*P.cellsOf e)).add k)=vs[k]?)/\CellsC w (enc none a x) vs:=by
       intro i hi;have:=hel i hi;cases hcs:w.cells? 0 (ad.add (i*P.cellsOf e)) (P.cellsOf e)with
       | none=>rw[hcs]at this;simp at this;omega
       | some vs=>
        rw[hcs]at this;simp only[Option.bind_some]at this;have hlt:i<elems.length:=by omega
        rw[List.getElem?_eq_getElem hlt]at this;obtain⟨c,hc1,hc2⟩:=open_gen n m e a vs _ ho.2 hte this;obtain⟨hv1,hv2⟩:=cells_get hcs;exact⟨c,hc1,by rw[<-hv1,<-hc2.1,enc_length],vs,hv1,hv2,hc2⟩
      obtain⟨els,hl,hp⟩:=choose_list _ len hone;by_cases h0:len=0
      ·subst h0;exact⟨([]:List a.den),⟨by simp,fun y hy=>by simp at hy⟩,rfl,fun k x hk=>by
        cases k with
        | zero=>simp[enc]at hk;subst hk;exact⟨_,rfl,.ro0 _ _ _⟩
        | succ k=>simp[enc]at hk⟩
      ·obtain⟨c0,_,_,vs0,hv0,hw0,_⟩:=hone 0 (by omega);have hb:=cell_lt (w:=w) (a:=(ad.add (0*P.cellsOf e)).add 0) (v:=vs0[0]'(by omega)) (by rw[hw0 0 ho.1,List.getElem?_eq_getElem (by omega)]);have hadd0:(ad.add (0*P.cellsOf e)).add 0=ad:=by simp[Addr.add]
       rw[hadd0]at hb;have hsp:=hb.2;have hadd:∀i k,(ad.add (i*P.cellsOf e)).add k=⟨ad.block,ad.off+(i*P.cellsOf e+k),none⟩:=fun i k=>by
        rw[addrAdd hsp,addrAdd rfl];simp[Nat.add_assoc]
       have ha:ad=⟨ad.block,ad.off,none⟩:=by cases ad;simp_all
       refine⟨els,⟨by show els.length<=maxLen;omega,fun c hc=> ?_⟩,rfl,fun k x hk=> ?_⟩
       ·obtain⟨i,hi⟩:=List.getElem?_of_mem hc;exact(hp i c hi).1
       ·cases k with
        | succ k=>simp[enc]at hk
        | zero=>
         simp only[enc,List.getElem?_cons_zero,Option.some.injEq]at hk;subst hk;refine⟨_,rfl,?_⟩;rw[ha];have get:∀(i:Nat) (c:List C),(List.map (enc none a) els)[i]? =some c->∃y,els[i]? =some y/\c=enc none a y:=fun i c hi=>by
          rw[List.getElem?_map,Option.map_eq_some_iff]at hi;obtain⟨y,hy,rfl⟩:=hi;exact⟨y,hy,rfl⟩
         refine .ro none _ ad.block ad.off len cap (P.cellsOf e) (fun i k=>(w.cell? ⟨ad.block,ad.off+(i*P.cellsOf e+k),none⟩).getD undef) (by rw[List.length_map];exact hl.symm) hc hm hb.1 ho.1 (fun i c hi=> ?_) (fun i c k x hi hk=> ?_) (fun i c k x hi hk=> ?_)
         ·obtain⟨y,hy,rfl⟩:=get i c hi;rw[enc_length];exact(hp i y hy).2.1
         ·obtain⟨y,hy,rfl⟩:=get i c hi;obtain⟨_,h1,vs,h2,h3,h4⟩:=hp i y hy;obtain⟨u,hu1,hu2⟩:=h4.2 k x hk;have hk' :k<P.cellsOf e:=by rw[<-h1,<-enc_length none a y];exact(List.getElem?_eq_some_iff.1 hk).1
          have:=h3 k hk';rw[hadd,hu1]at this;rw[this];rfl
         ·obtain⟨y,hy,rfl⟩:=get i c hi;obtain⟨_,h1,vs,h2,h3,h4⟩:=hp i y hy;obtain⟨u,hu1,hu2⟩:=h4.2 k x hk;have hk' :k<P.cellsOf e:=by rw[<-h1,<-enc_length none a y];exact(List.getElem?_eq_some_iff.1 hk).1
          have:=h3 k hk';rw[hadd,hu1]at this;rw[this];exact hu2
   | struct fs=>
    simp only[Bool.and_eq_true]at ho;obtain⟨ys,m,_,_,hlen,hys,hf⟩:=DataW.trod_struct hu h;have hfld:∀(i:Nat) (f:Field),fs[i]? =some f->∀ty,tyId P n f.type=some ty->∃x:ty.den,InR ty x/\CellsC w (enc none ty x) ((cs.drop f.offset).take (P.cellsOf f.type)):=by
     intro i f hi ty hty;have:=hf i f hi;have hlt:i<ys.length:=by rw[hys];exact(Array.getElem?_eq_some_iff.1 hi).1
     rw[List.getElem?_eq_getElem hlt]at this;exact open_gen n m f.type ty _ _ (List.all_eq_true.1 ho.2 f (by rw[<-Array.getElem?_toList]at hi;exact List.mem_of_getElem? hi)) hty this
    have:=struct_open (P:=P) (w:=w) (cs:=cs) (n:=n) fs.toList 0 ty (by rw[hlen];exact ho.1) ht (fun f hf' =>by
     obtain⟨i,hi⟩:=List.getElem?_of_mem hf';exact hfld i f (by rwa [Array.getElem?_toList]at hi))
    rwa [List.drop_zero]at this
   | _=>cases ho
end Go.Pu
/-
  Own work. From the contract of a law's function to the row.
-/
namespace Go.Pu
open Go Go.ChangeShapes Go.WideShapes Go.ChangeAt Go.RowKit
set_option linter.unusedVariables false
def ArgRep (w:World)(agg:Bool)(ty:Ty)(x:ty.den)(v:Value):Prop:=if agg then AggRep w (allG w) (enc none ty x) v else ∃q,enc none ty x=[q]/\CRep w (allG w) q v
theorem open_one {H:Type}{en:TypeId×Value->H}{P:Program}{w:World}{spare:Nat->Bool}{held:Bool}{base:Nat}{t:TypeId}{ty:Ty}{v:Value}{d:DataW H}{ps:List MemPlace}(ho:okT P 20 t=true)(ht:tyId P 20 t=some ty)
 (hv:Value.okWide P w .any base t v) (h:DataW.Trod en P w 0 spare held t v d ps):∃x:ty.den,InR ty x/\ArgRep w (isAggT P t) ty x v:=by
 obtain⟨fuel,hf⟩:=h;obtain⟨x,h1,h2,h3⟩:=open_gen 20 fuel t ty _ _ ho ht hf;refine⟨x,h1,?_⟩;have one:v.cells= #[v]->isAggT P t=false->ArgRep w (isAggT P t) ty x v:=fun hc ha=>by
  unfold ArgRep;rw[ha];simp only[Bool.false_eq_true,if_false];rw[hc]at h2 h3
  match hq:enc none ty x,h2,h3 with
  | [q],_,h3=>
   obtain⟨u,hu,hr⟩:=h3 0 q rfl;simp only[List.getElem?_cons_zero,Option.some.injEq]at hu;subst hu;exact⟨q,rfl,hr⟩
  | [],h2,_=>simp at h2
  | _::_::_,h2,_=>simp at h2
 unfold okT at ho;cases hu:P.underlying t with
 | none=>rw[hu]at ho;cases ho
 | some dd=>
  rw[hu]at ho;cases dd with
  | struct fs=>
   obtain⟨cs,rfl,hsz⟩:=okWide_struct hu hv;have ha:isAggT P t=true:=by simp[isAggT,aggOf,hu]
   unfold ArgRep;rw[ha];refine⟨cs,rfl,by simpa[Value.cells]using h2.symm,fun k q hk=> ?_⟩;obtain⟨u,hu1,hu2⟩:=h3 k q hk;exact⟨u,by simpa[Value.cells]using hu1,hu2⟩
  | int k=>
   obtain⟨z,rfl⟩:=okWide_int hu hv;exact one rfl (by simp[isAggT,aggOf,hu])
  | bool=>
   obtain⟨z,rfl⟩:=okWide_bool hu hv;exact one rfl (by simp[isAggT,aggOf,hu])
  | slice e=>
   obtain⟨a,l,c,rfl⟩:=okWide_slice hu hv;exact one rfl (by simp[isAggT,aggOf,hu])
  | _=>cases ho
def valSig (P:Program):List TypeId->List Par->Bool
 | [],[]=>true
 | t::ts,.val agg ty::ps=>(agg==isAggT P t) && decide (tyId P 20 t=some ty) && valSig P ts ps
 | _,_=>false
theorem prod_cons (t:Ty)(ts:List Ty)(x:t.den)(y:(prod ts).den):∃z:(prod (t::ts)).den,(InR t x->InR (prod ts) y->InR (prod (t::ts)) z)/\V.proj ⟨prod (t::ts),z⟩ (partPath (ts.length+1) 0)=⟨t,x⟩/\
 ∀i,i<ts.length->V.proj ⟨prod (t::ts),z⟩ (partPath (ts.length+1) (i+1))=V.proj ⟨prod ts,y⟩ (partPath ts.length i):=by
 cases ts with
 | nil=>exact⟨x,fun h _=>h,rfl,fun i h=>by simp at h⟩
 | cons t1 ts=>exact⟨(x,y),fun h1 h2=>⟨h1,h2⟩,rfl,fun i _=>rfl⟩
theorem open_all {H:Type}{en:TypeId×Value->H}{P:Program}{w:World}{spare:Nat->Bool}{held:Bool}{base:Nat}:∀(ts:List TypeId) (pp:List Par) (vs:List Value) (ds:List (DataW H)) (ps:List MemPlace),ts.all (okT P 20)=true->valSig P ts pp=true->
 (∀(j:Nat) t v,ts[j]? =some t->vs[j]? =some v->Value.okWide P w .any base t v)->DataW.TrodAll en P w 0 spare held ts vs ds ps->
 ds.length=ts.length/\vs.length=pp.length/\∃x:(prod (pp.map Par.ty)).den,InR (prod (pp.map Par.ty)) x/\∀(i:Nat) (agg:Bool) (ty:Ty),pp[i]? =some (.val agg ty)->∃v,vs[i]? =some v/\∃y:ty.den,V.proj ⟨prod (pp.map Par.ty),x⟩ (partPath pp.length i)=⟨ty,y⟩/\ArgRep w agg ty y v
 | [],[],[],[],ps,_,_,_,_=>⟨rfl,rfl,(),trivial,fun i agg ty h=>by simp at h⟩
 | t::ts,.val agg ty::pp,v::vs,d::ds,ps,ho,hs,hv,h=>by
  obtain⟨p,q,h1,h2,_⟩:=h;simp only[List.all_cons,Bool.and_eq_true]at ho;simp only[valSig,Bool.and_eq_true,beq_iff_eq,decide_eq_true_eq]at hs;obtain⟨⟨rfl,hty⟩,hs⟩:=hs;obtain⟨x,hx1,hx2⟩:=open_one ho.1 hty (hv 0 t v rfl rfl) h1;obtain⟨hl,hl2,y,hy1,hy2⟩:=open_all ts pp vs ds q ho.2 hs (fun j t v h3 h4=>hv (j+1) t v (by simpa using h3) (by simpa using h4)) h2;obtain⟨z,z1,z2,z3⟩:=prod_cons ty (pp.map Par.ty) x y;rw[List.length_map]at z2 z3;refine⟨by simp[hl],by simp[hl2],z,z1 hx1 hy1,fun i agg' ty' hi=> ?_⟩;cases i with
  | zero=>
   simp only[List.getElem?_cons_zero,Option.some.injEq,Par.val.injEq]at hi;obtain⟨rfl,rfl⟩:=hi;exact⟨v,rfl,x,z2,hx2⟩
  | succ i=>
   have hi' :pp[i]? =some (.val agg' ty'):=by simpa using hi
   obtain⟨v',q1,y',q2,q3⟩:=hy2 i agg' ty' hi';exact⟨v',by simpa using q1,y',by rw[<-q2];exact z3 i (List.getElem?_eq_some_iff.1 hi').1,q3⟩
 | [],[],[],_::_,_,_,_,_,h=>h.elim
 | [],[],_::_,_,_,_,_,_,h=>h.elim
 | [],_::_,_,_,_,_,hs,_,_=>by simp[valSig]at hs
 | _::_,[],_,_,_,_,hs,_,_=>by simp[valSig]at hs
 | _::_,.val _ _::_,[],_,_,_,_,_,h=>h.elim
 | _::_,.val _ _::_,_::_,[],_,_,_,_,h=>h.elim
 | _::_,.ptr _::_,_,_,_,_,hs,_,_=>by simp[valSig]at hs
 | _::_,.own _ _ _::_,_,_,_,_,hs,_,_=>by simp[valSig]at hs
 | _::_,.iob _ _::_,_,_,_,_,hs,_,_=>by simp[valSig]at hs
 | _::_,.tok _ _::_,_,_,_,_,hs,_,_=>by simp[valSig]at hs
 | _::_,.fn _ _::_,_,_,_,_,hs,_,_=>by simp[valSig]at hs
theorem valSig_get {P:Program}:∀(ts:List TypeId) (pp:List Par),valSig P ts pp=true->∀(i:Nat) (p:Par),pp[i]? =some p->∃agg ty,p= .val agg ty
 | [],[],_,i,p,h=>by simp at h
 | t::ts,.val agg ty::pp,hs,i,p,h=>by
  simp only[valSig,Bool.and_eq_true]at hs;cases i with
  | zero=>simp only[List.getElem?_cons_zero,Option.some.injEq]at h;exact⟨agg,ty,h.symm⟩
  | succ i=>exact valSig_get ts pp hs.2 i p (by simpa using h)
 | [],_::_,hs,_,_,_=>by simp[valSig]at hs
 | _::_,[],hs,_,_,_=>by simp[valSig]at hs
 | _::_,.ptr _::_,hs,_,_,_=>by simp[valSig]at hs
 | _::_,.own _ _ _::_,hs,_,_,_=>by simp[valSig]at hs
 | _::_,.iob _ _::_,hs,_,_,_=>by simp[valSig]at hs
 | _::_,.tok _ _::_,hs,_,_,_=>by simp[valSig]at hs
 | _::_,.fn _ _::_,hs,_,_,_=>by simp[valSig]at hs
theorem pre_law {P:Program}{s:Sig}{w:World}{args:Array Value}{ts:List TypeId}{x:s.p.den}(hs:valSig P ts s.ps=true)(hl:args.size=s.ps.length)
 (h:∀(i:Nat) (agg:Bool) (ty:Ty),s.ps[i]? =some (.val agg ty)->∃v,args.toList[i]? =some v/\∃y:ty.den,V.proj ⟨s.p,x⟩ (partPath s.ps.length i)=⟨ty,y⟩/\ArgRep w agg ty y v):Pre P s x w (allG w) args:=by
 refine⟨hl,fun i=> ?_,fun l row hr=> ?_,fun b hb=>hb,fun b l hl=>by cases hl⟩
 ·have hsl:(preSt s).slot i=((s.ps[i]?).map (parSlot s.ps.length (0+i) (0+nb s.ps i))).getD .junk:=by
   unfold St.slot preSt;simp only[List.getD];rw[initSlots_get]
  rw[hsl];cases hp:s.ps[i]? with
  | none=>trivial
  | some p=>
   obtain⟨agg,ty,rfl⟩:=valSig_get ts s.ps hs i p hp;obtain⟨v,h1,y,h2,h3⟩:=h i agg ty hp;have hv:args.getD i undef=v:=by
    rw[Array.getD_eq_getD_getElem?,<-Array.getElem?_toList,h1];rfl
   rw[hv];simp only[Option.map_some,Option.getD_some,Nat.zero_add,parSlot];have hc:=cellsOf_enc none 0 [⟨s.p,x⟩] ty (partPath s.ps.length i) y h2;unfold ArgRep at h3;cases agg with
   | true=>
    simp only[if_true]at h3;simp only[slotOf,if_true,SV.enc,hc];exact h3
   | false=>
    simp only[Bool.false_eq_true,if_false]at h3;obtain⟨q,hq,hr⟩:=h3;rw[hq]at hc;simp only[slotOf,Bool.false_eq_true,if_false];cases hcs:cellsOf none 0 (partPath s.ps.length i) ty with
    | nil=>rw[hcs]at hc;simp[encL]at hc
    | cons c cs=>
     rw[hcs]at hc;simp only[encL,List.cons.injEq]at hc;simp only[SV.enc,PRep,hc.1];exact hr
 ·obtain⟨j,p⟩:=l;have hr:RK.rows [⟨s.p,x⟩] j ((preSt s).rk j) p=some row:=hr;have:(preSt s).rk j= .dead:=by
   unfold St.rk preSt;simp only[List.getD];cases hj:(initRoots s.ps.length 0 0 s.ps)[j]? with
   | none=>rfl
   | some k' =>
    obtain⟨i,p',q,hp,hq,_⟩:=initRoots_get _ _ _ _ _ _ hj;obtain⟨agg,ty,rfl⟩:=valSig_get ts s.ps hs i p' hp;simp[parRoots]at hq
  rw[this,rows_dead]at hr;cases hr
theorem below_all {H:Type}{enc:TypeId×Value->H}{P:Program}(hl:laidOutB P=true){W W' :World}(hb:Below W.heap.size W W'):∀(ts:List TypeId) (vs:List Value) (ds:List (DataW H)) (ps:List MemPlace),
 ts.all (fun t=>P.readableRec t && Nat.blt t P.types.size)=true->DataW.TrodAll enc P W 0 (fun _=>true) true ts vs ds ps->(∀x∈ps,x.block<W.heap.size)->∀sp:Nat->Bool,(∀x∈ps,sp x.block=true)->DataW.TrodAll enc P W' 0 sp true ts vs ds ps
 | [],[],[],ps,_,h,_,_,_=>h
 | t::ts,v::vs,d::ds,ps,ho,h,hlt,sp,hsp=>by
  obtain⟨p,q,h1,h2,rfl⟩:=h;simp only[List.all_cons,Bool.and_eq_true,Nat.blt_eq]at ho;refine⟨p,q,?_,below_all hl hb ts vs ds q ho.2 h2 (fun x hx=>hlt x (by simp[hx])) sp (fun x hx=>hsp x (by simp[hx])),rfl⟩;exact WideElems.Trod_stays hl ho.1.1 ho.1.2 h1 (fun x hx=>hb.same (hlt x (by simp[hx]))) (fun x hx=>hsp x (by simp[hx]))
 | [],_::_,_,_,_,h,_,_,_=>h.elim
 | [],[],_::_,_,_,h,_,_,_=>h.elim
 | _::_,[],_,_,_,h,_,_,_=>h.elim
 | _::_,_::_,[],_,_,h,_,_,_=>h.elim
section
variable {H:Type} {enc:TypeId×Value->H} {P:Program}
theorem post_of_below' {f:Func}{s:ChangeSpec}{apart fresh handsOn again:Bool}{W W' :World}{args:Array Value}{v:Value}{ds gs:List (DataW H)}{before pa pv:List MemPlace}
 (hW:DataW.Whole enc P f.params.toList s.vars apart W args.toList ds gs before)
 (hres:∀(b:Nat) (sp:Nat->Bool) (hd:Bool),DataW.TrodAll enc P W' b sp hd f.resultTypes.toList (v.resultList f.resultTypes.size) (s.fn H (ds++gs)).results [])
 (hargs:∀sp:Nat->Bool,(∀p∈before,sp p.block=true)->DataW.TrodAll enc P W' 0 sp true f.params.toList args.toList (s.fn H (ds++gs)).args pa)
 (hvars:∀sp:Nat->Bool,(∀p∈before,sp p.block=true)->DataW.TrodVars enc P W' sp s.vars (s.fn H (ds++gs)).vars pv)
 (hps:before=pa++pv) (hb:Below W.heap.size W W')
 (hok:∀(j:Nat) (t:TypeId) (r:Value),f.resultTypes[j]? =some t->(v.resultList f.resultTypes.size)[j]? =some r->Value.okWide P W' .any 0 t r):
 s.post enc P f apart fresh handsOn again W args v W' :=by
 have hlt:∀p∈before,p.block<W.heap.size:=fun p hp=>hW.lt p hp
 have hold:∀p∈before,(fun b=>decide (b<W.heap.size)) p.block=true:=fun p hp=>by simpa using hlt p hp
 refine⟨ds,gs,before,[],pa,pv,hW,hres _ _ _,hargs _ hold,hvars _ hold,World.keptBut_mono (fun p hp=>⟨hp,?_⟩) (hb.frame (·∈before)),fun _=> ?_⟩
 ·rw[hps,List.mem_append]at hp;exact Or.inr hp
 ·obtain⟨_,_,_,_,_,hz,hn⟩:=hW;refine⟨hok,_,_,([]++pa)++pv,⟨[]++pa,pv,trodAll_append (hargs _ (fun _ _=>rfl)) (hres _ _ _),hvars _ (fun _ _=>rfl),rfl,?_,?_⟩,?_⟩
  ·intro b off hp;have hin:MemPlace.cell b off∈before:=by rw[hps];simpa using hp
   rw[hb.frozen (hlt _ hin)];exact hz b off hin
  ·intro ha;have:=hn ha;rw[hps]at this;simpa using this
  ·intro p hp _;rw[hps];simpa using hp
end
theorem law_post {H:Type}{enc:TypeId×Value->H}{P:Program}{fn:Func}{s:ChangeSpec}{tb:TypeId}{sg:Sig}{F:sg.p.den->Option sg.r.den}(hl:laidOutB P=true)(hro:fn.params.toList.all (fun t=>P.readableRec t && Nat.blt t P.types.size)=true)(hok:fn.params.toList.all (okT P 20)=true)
 (hvs:valSig P fn.params.toList sg.ps=true) (hslot:(postSt sg).slots=[.c (.v (.r ⟨0,[]⟩))])
 (hres:fn.resultTypes= #[tb]) (htb:P.underlying tb=some .bool) (hvar:s.vars=[]) (hfn:∀ds:List (DataW H),ds.length=fn.params.size->s.fn H (ds++[])={ results:=[.lit (.bool true)],args:=ds })
 (hlaw:∀x,InR sg.p x->∃y,F x=some y/\V.c ⟨sg.r,y⟩= .bool true) (hspec:CallSpec P sg F)
 (W:World) (base:Nat) (args:Array Value) (ds gs:List (DataW H)) (before:List MemPlace) (hval:∀(j:Nat) t v,fn.params[j]? =some t->args[j]? =some v->Value.okWide P W .any base t v)
 (hW:DataW.Whole enc P fn.params.toList s.vars false W args.toList ds gs before):
 Calls P sg.f args W fun e W' =>∃v,e= .returned v/\s.post enc P fn false true false false W args v W' :=by
 have hW' :=hW;obtain⟨p,q,hA,hV,rfl,hfz,hnd⟩:=hW;rw[hvar]at hV;obtain⟨rfl,rfl⟩:=trodVars_none hV;have hlt:∀x∈p++[],x.block<W.heap.size:=fun p hp=>hW'.lt p hp
 obtain⟨hdl,hvl,x,h1,h2⟩:=open_all (P:=P) fn.params.toList sg.ps args.toList ds p hok hvs (fun j t v ht hv=>hval j t v (by simpa using ht) (by simpa using hv)) hA;obtain⟨y,hy1,hy2⟩:=hlaw x h1;refine(hspec.run x y W (allG W) args (pre_law hvs (by simpa using hvl) h2) hy1).mono fun e W' hP=> ?_
 obtain⟨v,rfl,hpost⟩:=hP;obtain⟨hchg,g',_,_,hp,_⟩:=hpost;have hL:Below W.heap.size W W' :=(hchg.of (O:=fun _=>False) (B:=W.heap.size) fun k hk _=>⟨hk,fun⟨l,hl⟩=>by cases hl⟩).lat;have hv:v= .bool true:=by
  have hsl:(postSt sg).slot 0= .c (.v (.r ⟨0,[]⟩)):=by unfold St.slot;rw[hslot];rfl
  rw[hsl]at hp;have hp:CRep W' g' (V.c ⟨sg.r,y⟩) v:=by simpa[SV.enc,SC.enc,At.get,Ref.get,List.getD,V.proj,PRep]using hp
  rw[hy2]at hp;exact crep_bool hp
 subst hv;have hf:=hfn ds (by simpa using hdl);refine⟨_,rfl,post_of_below' (pa:=p) (pv:=[]) hW' (fun b sp hd=> ?_) (fun sp hsp=> ?_) (fun sp _=> ?_) rfl hL ?_⟩
 ·rw[hf,hres];exact trodAll_cons_mk (shut_bool htb _) trodAll_mk0
 ·rw[hf];have:=below_all hl hL fn.params.toList args.toList ds p hro hA (fun x hx=>hlt x (by simp[hx])) sp (fun x hx=>hsp x (by simp[hx]));simpa using this
 ·rw[hf,hvar];rfl
 ·exact ok_one hres rfl (okWide_bool_mk htb _)
end Go.Pu
/-
  Own work. Contracts gathered.
-/
namespace Go.Pu
open Go Go.RowKit
theorem Specs.nil {P:Program}:Specs P [] []:=fun s h=>by cases h
theorem Specs.cons {P:Program}{s:Sig}{ss:List Sig}{Γ:List FE}{fn:s.p.den->Option s.r.den}(h:CallSpec P s fn)(hs:Specs P ss Γ)(hk:ss.all (fun s' => !(Nat.beq s.key s'.key))=true):Specs P (s::ss) (⟨s.key,s.p,s.r,fn⟩::Γ):=fun s' hm=>by
 rcases List.mem_cons.1 hm with rfl | hm
 ·exact⟨fn,by simp[findF],h⟩
 ·obtain⟨fn',h1,h2⟩:=hs s' hm;refine⟨fn',?_,h2⟩;have:=List.all_eq_true.1 hk s' hm;simp only[Bool.not_eq_true']at this;simp only[findF];rw[if_neg (fun e=>by rw[e,Nat.beq_refl]at this;cases this)];exact h1
abbrev i0:Bool:=false
abbrev i1:Bool:=true
abbrev i6:IntKind:= .i64
abbrev tI:Ty:= .int .i64
abbrev tB:Ty:= .bool
abbrev tP (a b:Ty):Ty:= .pr a b
abbrev tS (e:TypeId)(a:Ty):Ty:= .sl e a
abbrev aV (n:Nat):At:= .r ⟨n,[]⟩
abbrev aR (n:Nat)(p:List Bool):At:= .r ⟨n,p⟩
abbrev aI (z:Int):At:= .int .i64 z
abbrev sV (x:At):SC:= .v x
abbrev sW (x:At):SV:= .c (.v x)
abbrev sB (e:Ex)(s:Stm):Stm:= .bind e s
abbrev sI (x:At)(s t:Stm):Stm:= .ite x s t
abbrev sL (t:Ty)(xs:List At)(s:Stm):Stm:= .loop t xs s
abbrev sJ (t:Ty)(s k:Stm):Stm:= .join t s k
abbrev sN (t:Ty)(xs:List At):Stm:= .next t xs
abbrev sU (s:Stm):Stm:= .lift s
abbrev sR (t:Ty)(xs:List At):Stm:= .ret t xs
end Go.Pu
/-
  Own work. Contracts bundled with their functions; the statement of a body is worked out, not printed.
-/
namespace Go.Pu
open Go Go.RowKit
structure SP (P:Program) where
 s:Sig
 fn:s.p.den->Option s.r.den
 ok:CallSpec P s fn
def SP.e {P:Program}(c:SP P):FE:=⟨c.s.key,c.s.p,c.s.r,c.fn⟩
theorem specsOf {P:Program}:∀(l:List (SP P)),nodup (l.map fun c=>c.s.key)=true->Specs P (l.map SP.s) (l.map SP.e)
 | [],_=>Specs.nil
 | c::l,h=>by
  simp only[List.map_cons,nodup,Bool.and_eq_true,Bool.not_eq_true']at h;refine Specs.cons c.ok (specsOf l h.2) (List.all_eq_true.2 fun s' hs=> ?_);obtain⟨c',hc,rfl⟩:=List.mem_map.1 hs;cases hb:Nat.beq c.s.key c'.s.key with
  | false=>rfl
  | true=>
   have e:=Nat.eq_of_beq_eq_true hb;have:(l.map fun c=>c.s.key).contains c.s.key=true:=by
    rw[List.contains_iff_mem,e];exact List.mem_map.2 ⟨c',hc,rfl⟩
   rw[h.1]at this;cases this
def kOk {P : Program} (cs : List (SP P)) (s : Sig) : Bool := nodup (cs.map fun c => c.s.key) && !(match P.funcs[s.f]? with | some F => F.name == "runtime.NumGoroutine" | none => true)
def cOk {P:Program}(cs:List (SP P))(an:Ann)(s:Sig):Bool:=kOk cs s && (match cFunc P (cs.map SP.s) an s with | .ok _=>true | .error _=>false)
def cStm {P:Program}(cs:List (SP P))(an:Ann)(s:Sig):Stm:=match cFunc P (cs.map SP.s) an s with | .ok x=>x | .error _=> .next .unit []
noncomputable def cDen {P:Program}(cs:List (SP P))(an:Ann)(s:Sig):s.p.den->Option s.r.den:=fun x=>(cStm cs an s).den (cs.map SP.e) [] s.r [⟨s.p,x⟩]
theorem specT {P:Program}{s:Sig}{fn:s.p.den->Option s.r.den}(cs:List (SP P))(an:Ann)(stm:Stm)(hm:P.follows .mixedOrders=true)(hk:kOk cs s=true)(h:cFunc P (cs.map SP.s) an s= .ok stm)(hf:(fun x=>stm.den (cs.map SP.e) [] s.r [⟨s.p,x⟩])=fn):CallSpec P s fn:=by
 unfold kOk at hk;rw[Bool.and_eq_true,Bool.not_eq_true']at hk;exact spec hm (specsOf cs hk.1) h hk.2 (fun x=>by rw[<-hf])
theorem specC {P:Program}{s:Sig}{fn:s.p.den->Option s.r.den}(cs:List (SP P))(an:Ann)(hm:P.follows .mixedOrders=true)(h:cOk cs an s=true)(hf:cDen cs an s=fn):CallSpec P s fn:=by
 unfold cOk at h;rw[Bool.and_eq_true]at h;cases hc:cFunc P (cs.map SP.s) an s with
 | error e=>rw[hc]at h;cases h.2
 | ok stm=>
  have e:cStm cs an s=stm:=by unfold cStm;rw[hc]
  exact specT cs an stm hm h.1 hc (by rw[<-hf];unfold cDen;rw[e])
end Go.Pu
