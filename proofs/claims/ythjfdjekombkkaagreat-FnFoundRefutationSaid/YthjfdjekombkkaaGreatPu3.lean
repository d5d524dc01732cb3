/-
  Own work: parts PuBg, PuBh, PuBi, PuBj, PuAc, PuAd, PuAe, PuAf, PuAg of my verified compiler.
-/
import Derived.Test.YthjfdjekombkkaaGreatPu2
import Derived.MapKept
import Derived.ProofKit
import Derived.OpenShut
import Derived.Carry
import Derived.ChangeSame
import Derived.Lib.SmallJoins
/-
  Own work. Calls, from the operation: nil slices and inner slices handed over.
-/
namespace Go.Pu
open Go Go.RowKit
set_option linter.unusedVariables false
set_option linter.unusedSectionVars false
section
variable {X:Ctx} {D:Nat->Prop} {Γ:List FE} {ss:List Sig} {st:St} {ρ:Env} {a:Act} {w w' :World} {g g' :G}
variable {d:Nat} {x y:Operand} {t t' ty:TypeId} {ps:String} {af:Array Edge} {gd:Option (Nat×Bool)} {s:Cg} {nr:Bool}
theorem Al1 (hi:Aw X D st ρ a w g){r r2:Nat}{es:List (Ex×Ty)}{st' :St}(h:st.putBack r r2= .ok (es,st')){ρ' :Env}(hev:Fk Γ (es.map (·.1)) ρ=some ρ')
 (hh:∀e b v nl i k,st.rk r= .listH e b v nl i k->g.hdr (r,[(i.nat ρ,k)])=g.hdr (r2,[])):∃g',Aw X D st' ρ' a w g' :=by
 unfold St.putBack at h;split at h
 case h_2=>cases h
 rename_i e b v nl i k e2 b2 x nl2 hr hr2;split at h
 case h_2=>cases h
 rename_i e' b' hle;simp only at h;generalize hst5:(((((st.bind b).bind b).bind (.sl e b)).kill false r).setR r .dead).strike [r2]=st5 at h;by_cases hc:(e2=e'∧b2=b'∧b'.flat=true/\x.ty st.ts=some (.sl e' b')/\b.flat1=true/\v.ty st.ts=some (.sl e b)/\i.lt st.ts.length=true/\st.wf=true/\st.rok=true/\st.dirty.isEmpty=true/\(!st.fix.contains r2)=true/\(!Nat.beq r2 r)=true/\st5.freed r [r2]=true/\st5.nr=st.nr)
 case neg=>rw[if_pos hc]at h;cases h
 rw[if_neg (fun hh=>hh hc)]at h;simp only[Ag,Prod.mk.injEq]at h;obtain⟨rfl,rfl⟩:=h;obtain⟨rfl,rfl,hf2,hxt,hf,hvt,hil,hw,hk,hdty,hfix2,hne,hfr,hnr5⟩:=hc;have hhd:=hh _ _ _ _ _ _ hr;have hne:r2≠r:=fun e0=>by subst e0;simp at hne
 have hfix2:st.fix.contains r2=false:=by simpa using hfix2
 have hdty:st.dirty=[]:=by simpa using hdty
 have hkn:k+1<=b.n:=by
  have:=(List.getElem?_eq_some_iff.1 hle).1;rw[Ba]at this;omega
 have hct:b.cellTy k [SC.h r2].length=[.sl e2 b2]:=by
  unfold Ty.cellTy;apply List.ext_getElem?;intro j;rw[List.getElem?_take,List.getElem?_drop];cases j with
  | zero=>simpa using hle
  | succ j=>simp
 have hl:st.takeN r (b.cellTy k [SC.h r2].length) [SC.h r2]= .ok [(x,some r2)]:=by
  rw[hct];have hb:Nat.beq r2 r=false:=T4 hne;simp only[St.takeN,hr2,hf2,hxt,hb,hfix2,Bool.not_false,and_self,if_true];rfl
 have hvg:=V.list_of (At.ty_get hi.typ hvt);have hrow:A4 X.P w g (r,[]) (.row false nl e (((v.get ρ).as (.sl e b)).mapIdx fun i y=>Cb r i 0 b y)):=hi.inv.row (r,[]) _ (by simp only[hr];rfl);have hrowS:∀(i2 j:Nat) (y2:b.den) (row:Row),((v.get ρ).as (.sl e b):List b.den)[i2]? =some y2->Bg 0 b y2 j=some row->¬(i2=i.nat ρ/\j=k)->A4 X.P w g (r,[(i2,j)]) row:=fun i2 j y2 row h1 h2 h3=>by
  refine hi.inv.row (r,[(i2,j)]) row ?_
  simp only[hr,RK.rows,h1];have hb:(Nat.beq i2 (i.nat ρ) && Nat.beq j k)=false:=by
   cases hb:(Nat.beq i2 (i.nat ρ) && Nat.beq j k)with
   | false=>rfl
   | true=>
    simp only[Ai]at hb;exact absurd ⟨Nat.eq_of_beq_eq_true hb.1,Nat.eq_of_beq_eq_true hb.2⟩ h3
  rw[hb];exact h2
 have hleaf2:∀row,Hh (x.get ρ)=some row->A4 X.P w g (r2,[]) row:=fun row h=>X6 hi hr2 hf2 hxt h
 generalize hxs:(v.get ρ).as (.sl e b)=zs at hrow hrowS hvg;obtain⟨v1,hv1,hev⟩:=Dn hev;obtain⟨v2,hv2,hev⟩:=Dn hev;obtain⟨v3,hv3,hev⟩:=Dn hev;have:=Db hev;subst this;simp only[Ex.den1,Ex.den,hvg,Option.bind_eq_some_iff,Ah]at hv1;obtain⟨z,hz,rfl⟩:=hv1;obtain⟨z0,z1,z2⟩:=Th hz;have hnx:st.nx=ρ.length:=by rw[hi.len];rfl
 have hg1:Ref.get (ρ++[⟨b,z⟩]) ⟨st.nx,[]⟩=⟨b,z⟩:=by
  have:(st.ref).get (ρ++[⟨b,z⟩])=⟨b,z⟩:=Ff hi.len;exact this
 have hleafs:=Wg hi (ρ1:=[⟨b,z⟩]) hg1 hl hkn;simp only[Ex.den1,Ex.den,Ah]at hv2;have e1:([(x,some r2)]:List (At×Option Nat)).map (·.1)=[x]:=rfl;rw[e1]at hleafs;generalize hz2:(mkv b ((C0 (Es st.nx b) k [x]).map (At.get (ρ++[⟨b,z⟩])))).1=zn at hv2 hleafs;subst hv2;have hva:At.get ((ρ++[⟨b,z⟩])++[⟨b,zn⟩]) v=⟨.sl e b,zs⟩:=by
  rw[List.append_assoc,At.get_app (by rw[hi.len];exact At.ty_lt hvt)];exact hvg
 have hia:At.get ((ρ++[⟨b,z⟩])++[⟨b,zn⟩]) i=i.get ρ:=by
  rw[List.append_assoc,At.get_app (by rw[hi.len];exact hil)]
 have hna:At.get ((ρ++[⟨b,z⟩])++[⟨b,zn⟩]) (.r ⟨st.nx+1,[]⟩)=⟨b,zn⟩:=by
  simp only[At.get,Ref.get,V.proj,hnx];simp[List.getD]
 simp only[Ex.den1,Ex.den,hva,hia,hna,V.as_self,Ah]at hv3;subst hv3;have hi3:Aw X D (((st.bind b).bind b).bind (.sl e b)) (((ρ++[⟨b,z⟩])++[⟨b,zn⟩])++[⟨.sl e b,A8 zs (i.get ρ).int zn⟩]) a w g:=by
  have:=hi.grow hw [⟨b,z⟩,⟨b,zn⟩,⟨.sl e b,A8 zs (i.get ρ).int zn⟩];simpa[St.bind]using this
 have hset:A8 zs (i.get ρ).int zn=zs.set (i.get ρ).int.toNat zn:=rfl;have hv3g:(At.get (((ρ++[⟨b,z⟩])++[⟨b,zn⟩])++[⟨.sl e b,A8 zs (i.get ρ).int zn⟩]) (.r ⟨st.nx+2,[]⟩)).as (.sl e b)=A8 zs (i.get ρ).int zn:=by
  have:At.get (((ρ++[⟨b,z⟩])++[⟨b,zn⟩])++[⟨.sl e b,A8 zs (i.get ρ).int zn⟩]) (.r ⟨st.nx+2,[]⟩)=⟨.sl e b,A8 zs (i.get ρ).int zn⟩:=by
   simp only[At.get,Ref.get,V.proj,hnx];simp[List.getD]
  rw[this];exact V.as_self _ _
 rw[hset]at hv3g hi3 ⊢;have hNe:i.nat ρ=(i.get ρ).int.toNat:=rfl;rw[hNe]at hrowS hhd;generalize (i.get ρ).int.toNat=N at*;have hNl:N<zs.length:=(List.getElem?_eq_some_iff.1 z2).1;have h5:=Tr [r2] (hi3.killDead (Cv (Cv (Cv hk _) _) _) (all:=false) r (fun e=>by cases e));rw[hst5]at h5;have hd5:st5.dirty=[]:=by
  rw[<-hst5];have h1:((((((st.bind b).bind b).bind (.sl e b)).kill false r).setR r .dead).strike [r2]).dirty=st.dirty:=I0 _ _;rw[h1];exact hdty
 obtain⟨f1,f2,f3,f4,f5,f6,f7⟩:=Mv hfr;have hgetE:∀(i2:Nat) (c:List C),(zs.mapIdx fun i y=>Cb r i 0 b y)[i2]? =some c->∃y2,zs[i2]? =some y2/\c=Cb r i2 0 b y2:=fun i2 c hc=>by
  rw[List.getElem?_mapIdx,Option.map_eq_some_iff]at hc;obtain⟨y2,hy2,rfl⟩:=hc;exact⟨y2,hy2,rfl⟩
 obtain⟨V0,hV0,hV0t⟩:∃V,(Bv b z)[k]? =some V/\V.t= .sl e2 b2:=by
  have hlt:k<(Bv b z).length:=by rw[Cr];omega
  refine⟨_,List.getElem?_eq_getElem hlt,?_⟩;have h1:=Sd b z;have h2:((Bv b z).map V.t)[k]? =some (.sl e2 b2):=by rw[h1];exact hle
  rw[List.getElem?_map,List.getElem?_eq_getElem hlt]at h2;simpa using h2
 have hxg:(x.get ρ).t= .sl e2 b2:=At.ty_get hi.typ hxt;have hlk:∀(j:Nat) (V:V),(Bv b zn)[j]? =some V->(j=k/\V=x.get ρ)\/(j≠k/\(Bv b z)[j]? =some V):=fun j V hV=>by
  rw[hleafs,Dc _ _ _ (by rw[Cr];simpa using hkn)]at hV;by_cases hj:j=k
  ·subst hj;rw[if_pos (by simp)]at hV;simp at hV;exact .inl ⟨rfl,hV.symm⟩
  ·rw[if_neg (by simp;omega)]at hV;exact .inr ⟨hj,hV⟩
 let src:Nat->Nat->Option Loc:=fun i2 j=>if i2=N/\j=k then some (r2,[])else some (r,[(i2,j)])
 have sIn:src N k=some (r2,[]):=by simp[src]
 have sOut:∀i2 j,¬(i2=N/\j=k)->src i2 j=some (r,[(i2,j)]):=fun i2 j h=>by simp only[src];rw[if_neg h]
 have sOk:∀i2 j l0,src i2 j=some l0->(i2=N/\j=k/\l0=(r2,[]))\/(¬(i2=N/\j=k)/\l0=(r,[(i2,j)])):=fun i2 j l0 h=>by
  simp only[src]at h;split at h
  ·rename_i hh;cases h;exact .inl ⟨hh.1,hh.2,rfl⟩
  ·rename_i hh;cases h;exact .inr ⟨hh,rfl⟩
 refine Exists.elim (h5.regroup (R0:=r) (e:=e) (b:=b) (v:= .r ⟨st.nx+2,[]⟩) (nl:=nl) (xs:=zs.set N zn) (els:=zs.mapIdx fun i y=>Cb r i 0 b y) src hv3g hf f5 f6 (fun r3 hr3=> ?_) (fun i1 j1 i2 j2 l0 h1 h2=> ?_) (fun i2 j h=> ?_) (.inl hd5) (fun r' e0=>by rw[hd5]at e0;cases e0) hrow (by simp) (fun i2 c y2 hc hy2=> ?_) (fun i2 y2 j V row hy2 hV hVr=> ?_)) (fun g' hg' =>⟨g',hg'.1⟩)
 ·obtain⟨p1,p2⟩:=f7 r3 hr3;refine⟨p1,fun i2 j p h=> ?_⟩;rcases sOk _ _ _ h with⟨_,_,h⟩ | ⟨_,h⟩<;>cases h
  ·exact p2 (by simp)
  ·exact p1 rfl
 ·rcases sOk _ _ _ h1 with⟨a1,a2,a3⟩ | ⟨a1,a2⟩<;>rcases sOk _ _ _ h2 with⟨b1,b2,b3⟩ | ⟨b1,b2⟩
  ·rw[a1,a2,b1,b2]
  ·rw[a3]at b2;cases b2
  ·rw[a2]at b3;cases b3
  ·rw[a2]at b2;cases b2;rfl
 ·rcases sOk _ _ _ h with⟨_,_,h⟩ | ⟨_,h⟩<;>cases h
  exact hne rfl
 ·obtain⟨y3,hy3,rfl⟩:=hgetE i2 c hc;refine⟨Bf _ _ _ _ _,fun j q V u hq hV hu=> ?_⟩;rw[Fn,Nat.zero_add,Option.map_eq_some_iff]at hq;obtain⟨V3,hV3,rfl⟩:=hq;by_cases hiN:i2=N
  ·subst hiN;rw[List.getElem?_set_self hNl]at hy2;cases hy2;rw[z2]at hy3;cases hy3
   rcases hlk j V hV with⟨rfl,rfl⟩ | ⟨hj,hVj⟩
   ·rw[sIn];rw[hV0]at hV3;cases hV3
    obtain⟨ys,rfl⟩:=Axe hV0t;simp only[Qy]at hu;exact⟨fun _=>(Cu hu).trans hhd,fun hs=>by rw[hxg]at hs;cases hs⟩
   ·rw[hV3]at hVj;cases hVj
    rw[sOut _ _ (fun h=>hj h.2)];exact L8 hf hV3 hu
  ·rw[List.getElem?_set_ne (Ne.symm hiN)]at hy2;rw[hy2]at hy3;cases hy3
   rw[hV]at hV3;cases hV3
   rw[sOut _ _ (fun h=>hiN h.1)];exact L8 hf hV hu
 ·by_cases hin:i2=N/\j=k
  ·obtain⟨rfl,rfl⟩:=hin;rw[List.getElem?_set_self hNl]at hy2;cases hy2;rcases hlk j V hV with⟨_,rfl⟩ | ⟨hj,_⟩
   ·rw[sIn];exact hleaf2 row hVr
   ·exact absurd rfl hj
  ·rw[sOut _ _ hin];have key:∃y3,zs[i2]? =some y3/\(Bv b y3)[j]? =some V:=by
    by_cases hiN:i2=N
    ·subst hiN;rw[List.getElem?_set_self hNl]at hy2;cases hy2;rcases hlk j V hV with⟨rfl,_⟩ | ⟨_,hVj⟩
     ·exact absurd ⟨(by first | rfl | trivial),(by first | rfl | trivial)⟩ hin
     ·exact⟨z,z2,hVj⟩
    ·rw[List.getElem?_set_ne (Ne.symm hiN)]at hy2;exact⟨y2,hy2,hV⟩
   obtain⟨y3,hy3,hV3⟩:=key;refine hrowS i2 j y3 row hy3 ?_ hin;have:=Fw b 0 y3 j;rw[Nat.zero_add,hV3]at this;rw[this];exact hVr
theorem Al2 {sg:Sig}{fn:sg.p.den->Option sg.r.den}(hsp:Ja X.P sg fn){args:Array Operand}{ats:Array TypeId}{f:FuncId}{caps:List SC}(hf:sg.f=f)(hi:Aw X D st ρ a w g)(hx:st.val x= .ok (.c (.fn f caps))):
 ∃cv:Array Value,cv.size=caps.length/\(∀(k:Nat) (q:C),(Ay ρ caps)[k]? =some q->Au w g q (cv.getD k undef))/\
  (execOp a.eval ⟨some d,.call { callee:= .value x,args:=args,argTypes:=ats },ty,ps,af,gd⟩).run X.P w= .ok (.enter f (args.map a.eval++cv)) w:=by
 obtain⟨⟨F,hF,hname,hbody⟩,_⟩:=hsp;have hxr:Au w g (.fn f (Ay ρ caps)) (a.eval x):=by simpa[SV.enc,SC.enc,Bp]using Bd hi hx
 obtain⟨cv,hcv,hcvl,hcvr⟩:∃cv:Array Value,a.eval x= .func (.func f) #[] cv/\cv.size=caps.length/\∀(k:Nat) (q:C),(Ay ρ caps)[k]? =some q->Au w g q (cv.getD k undef):=by
  generalize a.eval x=u at hxr;cases hxr with
  | fn _ _ vs hs hrep=>exact⟨vs,rfl,by rw[hs,An,Ae],hrep⟩
 have hn' : ¬ F.name = "runtime.NumGoroutine" := by simpa using hname
 have hb' :¬F.body=none:=fun e=>by rw[e]at hbody;cases hbody
 rw[hf]at hF;exact⟨cv,hcvl,hcvr,by simp[execOp,resolve,Deferred.ofValue,hcv,invoke,callFunc,hF,hn',hb']⟩
theorem Wi (hi:Aw X D st ρ a w g){args:Array Operand}{us:List SV}(hus:args.toList.mapM st.val= .ok us){caps:List SC}{cv:Array Value}(hcvr:∀(k:Nat) (q:C),(Ay ρ caps)[k]? =some q->Au w g q (cv.getD k undef)):
 ∀(i:Nat) (sv:SV),(us++caps.map SV.c)[i]? =some sv->Bp X.P w g (sv.enc ρ) ((args.map a.eval++cv).getD i undef):=fun i sv hsv=>by
 obtain⟨m1,m2⟩:=Tp _ _ hus;have m1' :us.length=(args.map a.eval).size:=by simp[m1]
 rw[List.getElem?_append]at hsv;rw[Array.getD_eq_getD_getElem?,Array.getElem?_append,<-m1'];split at hsv
 ·rename_i hlt;rw[if_pos hlt];obtain⟨o,ho,hov⟩:=m2 i sv hsv;have:(args.map a.eval)[i]? =some (a.eval o):=by rw[Array.getElem?_map,<-Array.getElem?_toList,ho];rfl
  rw[this];exact Bd hi hov
 ·rename_i hge;rw[if_neg hge];rw[List.getElem?_map,Option.map_eq_some_iff]at hsv;obtain⟨c,hc,rfl⟩:=hsv;have:=hcvr (i - us.length) (c.enc ρ) (by rw[An,List.getElem?_map,hc];rfl);rw[Array.getD_eq_getD_getElem?]at this;exact this
theorem X7 {P:Program}{us:List SV}{v:SV}{argv:Array Value}(h:∀(i:Nat) (sv:SV),us[i]? =some sv->Bp P w g (sv.enc ρ) (argv.getD i undef))(h0:Bp P w g (v.enc ρ) (argv.getD 0 undef)):
 ∀(i:Nat) (sv:SV),(v::us.drop 1)[i]? =some sv->Bp P w g (sv.enc ρ) (argv.getD i undef):=fun i sv hsv=>by
 cases i with
 | zero=>cases hsv;exact h0
 | succ i=>
  simp only[List.getElem?_cons_succ,List.getElem?_drop]at hsv;exact h (i+1) sv (by rw[show i+1=1+i from by omega];exact hsv)
theorem Avk (hS:Nh X.P ss Γ)(hN:d<X.N){args:Array Operand}{ats:Array TypeId}{f:FuncId}{caps:List SC}(hx:st.val x= .ok (.c (.fn f caps)))(h:Rm st ss d f args.toList caps= .ok s)
 (hnr:nr=true->∀sg,Yo st ss f args.toList=some sg->sg.flags.isEmpty=true):I9 X NoD Γ nr st ⟨some d,.call { callee:= .value x,args:=args,argTypes:=ats },ty,ps,af,gd⟩ s:=by
 unfold Rm at h;split at h
 case h_2=>cases h
 rename_i sg hsg;split at h
 case isTrue=>cases h
 have hb0:=Al h
 clear h
 obtain⟨us,hus,h⟩:=hb0;obtain⟨hmem,hf⟩:=Aex hsg;obtain⟨fn,_,hsp⟩:=hS sg hmem;have hnr' :nr=true->sg.flags.isEmpty=true:=fun e=>hnr e sg hsg
 intro ρ ρ' a w g hi hw hk hev;obtain⟨cv,hcvl,hcvr,hmach⟩:=Al2 (d:=d) (ty:=ty) (ps:=ps) (af:=af) (gd:=gd) (args:=args) (ats:=ats) hsp hf hi hx;obtain⟨m1,m2⟩:=Tp _ _ hus;have hargs:=Wi hi hus hcvr;unfold Oper.wp;rw[hmach];simp only[Oper.upon];rw[<-hf];unfold Ane at h;split at h
 ·
  rename_i e b io ps1 us1 hps;simp only at h;by_cases hc:((adoptNew st e b).wf=true/\(adoptNew st e b).rok=true/\caps.isEmpty=true)
  case neg=>rw[if_pos hc]at h;cases h
  rw[if_neg (fun hh=>hh hc)]at h;obtain⟨us2,hus2,h⟩:=Al h;obtain⟨hw1,hk1,hc0⟩:=hc;have hc0:caps=[]:=by simpa using hc0
  subst hc0;obtain⟨g1,hi1,q1,_⟩:=hi.adoptNew (e:=e) (b:=b) (nl:=true) hk;have hcv0:cv= #[]:=Array.eq_empty_of_size_eq_zero hcvl;subst hcv0;have hargs2:=Wi (caps:=[]) (cv:= #[]) hi1 hus2 (fun k q hq=>by simp[Ay]at hq);simp only[List.map_nil,List.append_nil]at hargs2 hargs;have h0:(args.map a.eval++ #[]).getD 0 undef= .slice none 0 0:=by
   have:=hargs 0 _ rfl;have h0:Au w g .nil ((args.map a.eval++ #[]).getD 0 undef):=by simpa[SV.enc,SC.enc,Bp]using this
   generalize (args.map a.eval++ #[]).getD 0 undef=u at h0;cases h0;rfl
  obtain⟨m3,_⟩:=Tp _ _ hus2;have hlen:(args.map a.eval++ #[]).size=(SV.c (.h st.nr)::us2.drop 1).length:=by
   have h1:us2.length=args.size:=by simpa using m3
   have h2:(SV.c SC.nil::us1).length=args.size:=by simpa using m1
   simp at h1 h2 ⊢;omega
  refine Calls.mono (We hS hmem hN h hi1 hw1 hk1 hev hlen (X7 hargs2 (by rw[h0,<-q1];exact .hd _ _ rfl))) fun e2 w' ⟨v,h1,h2,g',h3,_⟩=> ?_
  subst h1;exact⟨fun e=>h2 (hnr' e),g',h3⟩
 ·
  rename_i e b ps1 xx us1 hps;simp only at h;by_cases hc:((st.push .dead).wf=true/\(st.push .dead).rok=true/\xx.lt st.ts.length=true/\caps.isEmpty=true)
  case neg=>rw[if_pos hc]at h;cases h
  rw[if_neg (fun hh=>hh hc)]at h;obtain⟨us2,hus2,h⟩:=Al h;obtain⟨hw1,hk1,hxl,hc0⟩:=hc;have hc0:caps=[]:=by simpa using hc0
  subst hc0;have hcv0:cv= #[]:=Array.eq_empty_of_size_eq_zero hcvl;subst hcv0;obtain⟨g1,hi1,q1,q2,q3,q4⟩:=hi.adoptTok (v:=(args.map a.eval++ #[]).getD 0 undef) hk;have hargs2:=Wi (caps:=[]) (cv:= #[]) hi1 hus2 (fun k q hq=>by simp[Ay]at hq);simp only[List.map_nil,List.append_nil]at hargs2 hargs;have h0:Au w g1 ((SC.tk st.nr xx).enc ρ) ((args.map a.eval++ #[]).getD 0 undef):=by
   have h1:Au w g ((SC.s none xx).enc ρ) ((args.map a.eval++ #[]).getD 0 undef):=hargs 0 _ rfl;simp only[SC.enc]at h1 ⊢;refine .both _ _ _ (.hd _ _ q1.symm) (h1.keep (pl:=fun _=>False) (pr:=fun rg=>rg=none) (fun _ h=>h.elim) (fun rg hrg b hb=> ?_) (Lf (prr:=fun rg=>rg=none) rfl _));subst hrg;exact⟨by show g1.S b;rw[q3];exact hb,rfl⟩
  obtain⟨m3,_⟩:=Tp _ _ hus2;have hlen:(args.map a.eval++ #[]).size=(SV.c (.tk st.nr xx)::us2.drop 1).length:=by
   have h1:us2.length=args.size:=by simpa using m3
   have h2:(SV.c (SC.s none xx)::us1).length=args.size:=by simpa using m1
   simp at h1 h2 ⊢;omega
  refine Calls.mono (We hS hmem hN h hi1 hw1 hk1 hev hlen (X7 hargs2 h0)) fun e2 w' ⟨v,h1,h2,g',h3,_⟩=> ?_
  subst h1;exact⟨fun e=>h2 (hnr' e),g',h3⟩
 ·
  rename_i e b ps1 r i k xx us1 hps;obtain⟨⟨es1,st1⟩,hz,h⟩:=Al h;simp only at h;by_cases hc:(st1.wf=true/\st1.rok=true/\caps.isEmpty=true/\st.dirty.isEmpty=true)
  case neg=>rw[if_pos hc]at h;cases h
  rw[if_neg (fun hh=>hh hc)]at h;obtain⟨us2,hus2,h⟩:=Al h;obtain⟨R,hR,h⟩:=Al h;by_cases hc2:(R.head? =some st.nr/\sg.flags.head? =some true/\(!R.contains r)=true)
  case neg=>rw[if_pos hc2]at h;cases h
  rw[if_neg (fun hh=>hh hc2)]at h;obtain⟨s2,hs2,h⟩:=Al h;obtain⟨⟨es3,st3⟩,hpb,h⟩:=Al h;simp only at h;split at h
  case h_2=>simp at h
  rename_i e3 b3 v3 nl3 i3 k3 hrr;by_cases hhole:(decide (i3=i/\k3=k))=true
  case neg=>rw[if_neg hhole]at h;cases h
  rw[if_pos hhole]at h;simp only[Ag]at h;subst h;obtain⟨hw1,hk1,hc0,hdty⟩:=hc;obtain⟨hR0,hfl0,hRr⟩:=hc2;have hc0:caps=[]:=by simpa using hc0
  subst hc0;rw[List.map_append,List.map_append]at hev;obtain⟨ρ1,hev1,hev⟩:=Ts _ _ hev;obtain⟨ρ2,hev2,hev3⟩:=Ts _ _ hev;obtain⟨g1,hi1,o1,o2,_,⟨ρx,rfl⟩,o4,o5,o6⟩:=Qb hi hz hev1;have hcv0:cv= #[]:=Array.eq_empty_of_size_eq_zero hcvl;subst hcv0;have hargs2:=Wi (caps:=[]) (cv:= #[]) hi1 hus2 (fun k q hq=>by simp[Ay]at hq);simp only[List.map_nil,List.append_nil]at hargs2 hargs;have h0:(args.map a.eval++ #[]).getD 0 undef=g1.hdr (st.nr,[]):=by
   have:=hargs 0 _ rfl;have h0:Au w g (.both (.hd (r,[(i.nat ρ,k)])) (.ro (some r) ((xx.get ρ).els (some r)))) ((args.map a.eval++ #[]).getD 0 undef):=by simpa[SV.enc,SC.enc,Bp]using this
   rw[Cu (Rq h0),o1]
  obtain⟨m3,_⟩:=Tp _ _ hus2;have hlen:(args.map a.eval++ #[]).size=(SV.c (.h st.nr)::us2.drop 1).length:=by
   have h1:us2.length=args.size:=by simpa using m3
   have h2:(SV.c (.hn r i k xx)::us1).length=args.size:=by simpa using m1
   simp at h1 h2 ⊢;omega
  refine Calls.mono (We hS hmem hN hs2 hi1 hw1 hk1 hev2 hlen (X7 hargs2 (by rw[h0];exact .hd _ _ rfl))) fun e2 w' ⟨v,h1,h2,g',h3,h4⟩=> ?_
  subst h1;refine⟨fun e=> ?_,?_⟩
  ·have:=hnr' e;have hn:sg.flags=[]:=by simpa using this
   rw[hn]at hfl0;cases hfl0
  obtain⟨k1,k2⟩:=h4 R hR;obtain⟨ρ3,hρ3⟩:=P7 _ _ _ hev2;refine Al1 h3 hpb hev3 fun e' b' v' nl' i' k' hr' => ?_
  rw[hr']at hrr;cases hrr;simp only[decide_eq_true_eq]at hhole;obtain⟨rfl,rfl⟩:=hhole;have hin:i3.nat ρ2=i3.nat ρ:=by rw[hρ3,List.append_assoc,Id (by rw[hi.len];exact o6)]
  rw[hin,k1 r _ (by rw[o5];omega) (by simpa using hRr),k2 0 st.nr (by rw[List.head?_eq_getElem?]at hR0;exact hR0) (by rw[List.head?_eq_getElem?]at hfl0;exact hfl0),o2 _ o4,o1]
 ·refine Calls.mono (We hS hmem hN h hi hw hk hev (by simp[m1,hcvl]) hargs) fun e2 w' ⟨v,h1,h2,g',h3,_⟩=> ?_
  subst h1;exact⟨fun e=>h2 (hnr' e),g',h3⟩
end
end Go.Pu
/-
  Own work. From the body to the contract.
-/
namespace Go.Pu
open Go Go.RowKit
set_option linter.unusedVariables false
set_option linter.unusedSectionVars false
section
variable {X:Ctx} {D:Nat->Prop} {Γ:List FE} {st:St} {ρ:Env} {a:Act} {w:World} {g:G}
theorem Ap6 (hi:Aw X D st ρ a w g)(hN:0<X.N){es:List (Ex×Ty)}{st' :St}(h:Ale st= .ok (es,st')){ρ' :Env}(hev:Fk Γ (es.map (·.1)) ρ=some ρ'):∃g',Aw X D st' ρ' a w g' :=by
 have hs:=hi.inv.slot 0;unfold Ale at h;split at h
 ·rename_i r i k xx hsl;obtain⟨⟨es1,st1⟩,hz,h⟩:=Al h;simp only[Ag,Prod.mk.injEq]at h;obtain⟨rfl,rfl⟩:=h;obtain⟨g1,hi1,h1,_⟩:=Qb hi hz hev;rw[hsl]at hs;have hs:Au w g (.both (.hd (r,[(i.nat ρ,k)])) (.ro (some r) ((xx.get ρ).els (some r)))) (a.tmps.getD 0 undef):=by simpa[SV.enc,SC.enc,Bp]using hs
  exact⟨g1,hi1.reslot (.hd _ _ (by rw[Cu (Rq hs),h1]))⟩
 ·rename_i r i k xx rs hsl;obtain⟨⟨es1,st1⟩,hz,h⟩:=Al h;simp only at h;split at h
  ·rename_i x0 rs1 hsl1;simp only[Ag,Prod.mk.injEq]at h;obtain⟨rfl,rfl⟩:=h;obtain⟨g1,hi1,h1,_⟩:=Qb hi hz hev;rw[hsl]at hs;have hs1:=hi1.inv.slot 0;rw[hsl1]at hs1;obtain⟨vs,e1,e2,e3⟩:=hs;obtain⟨vs1,f1,f2,f3⟩:=hs1;rw[e1]at f1;cases f1;refine⟨g1,hi1.reslot ⟨vs,e1,by rw[f2];simp,fun j q hq=> ?_⟩⟩;cases j with
   | zero=>
    simp only[List.map_cons,List.getElem?_cons_zero,Ah]at hq;subst hq;obtain⟨u,hu,hr⟩:=e3 0 _ rfl;refine⟨u,hu,?_⟩;have hr:Au w g (.both (.hd (r,[(i.nat ρ,k)])) (.ro (some r) ((xx.get ρ).els (some r)))) u:=by simpa[Jy,Ay,SC.enc,Ah2]using hr
    show Au w g1 (.hd (st.nr,[])) u;exact .hd _ _ (by rw[Cu (Rq hr),h1])
   | succ j=>exact f3 (j+1) q (by simpa using hq)
  ·cases h
 ·simp only[Ag,Prod.mk.injEq]at h;obtain⟨rfl,rfl⟩:=h;have:=Db hev;subst this;exact⟨g,hi⟩
end
theorem Avl {P:Program}{ss:List Sig}{Γ:List FE}{an:Ann}{s:Sig}{stm:Stm}{fn:s.p.den->Option s.r.den}(hm:P.follows .mixedOrders=true)(hop:∀X:Ctx,X.P=P->Yt X Γ ss)(h:Aa1 P ss an s= .ok stm)
 (hname : (match P.funcs[s.f]? with | some F => F.name == "runtime.NumGoroutine" | none => true) = false) (hfn : ∀ x, fn x = stm.den Γ [] s.r [⟨s.p, x⟩]) : Ja P s fn := by
 unfold Aa1 at h;split at h
 ·cases h
 ·rename_i F hF;split at h
  ·cases h
  ·rename_i c hb;by_cases hc:(an.N=F.ntmps/\s.ps.length<=F.ntmps)
   ·rw[if_neg (fun hh=>hh hc)]at h;obtain⟨hN,hle⟩:=hc;rw[hF]at hname;refine⟨⟨F,hF,hname,by rw[hb];rfl⟩,fun x y w g args hp hy=> ?_⟩;refine calls_of_wp hF hb ?_
    let X:Ctx:=⟨P,F.ntmps,w.heap.size,w,g.S,fun b=>∃l,g.own b=some l,fun j=>g.hdr (j,[])⟩
    have hsz:(args++Array.replicate (F.ntmps - args.size) undef).size=F.ntmps:=by rw[Array.size_append,Array.size_replicate,hp.size];omega
    have hlen:(Fj s).slots.length=s.ps.length:=Oz _ _ _ _;have hi:Aw X NoD (Aga F.ntmps s) [⟨s.p,x⟩] { tmps:=args++Array.replicate (F.ntmps - args.size) undef,defers:=[] } w g:=by
     refine⟨rfl,⟨hsz,rfl,⟨Chg.refl _ _ _,Nat.le_refl _,fun b hb=>⟨hp.S b hb,.inl hb⟩,fun b l hl=>⟨.inl ⟨l,hl⟩,hp.own b l hl⟩⟩,fun i=> ?_,fun l row hl=>hp.row l row hl⟩,fun r _=>rfl,⟨fun b hb=>hb.elim,fun r b q h=>by cases h⟩⟩;show Bp P w g (((Aga F.ntmps s).slot i).enc [⟨s.p,x⟩]) ((args++Array.replicate (F.ntmps - args.size) undef).getD i undef);have hsl:(Aga F.ntmps s).slot i=(((Fj s).slots++List.replicate (F.ntmps - (Fj s).slots.length) SV.und).getD i SV.junk):=rfl;rw[hsl];by_cases hi:i<s.ps.length
     ·have e1:((Fj s).slots++List.replicate (F.ntmps - (Fj s).slots.length) SV.und).getD i .junk=(Fj s).slot i:=by
       unfold St.slot;rw[List.getD,List.getD,List.getElem?_append_left (by omega)]
      have e2:(args++Array.replicate (F.ntmps - args.size) undef).getD i undef=args.getD i undef:=by
       rw[Array.getD_eq_getD_getElem?,Array.getD_eq_getD_getElem?,Array.getElem?_append_left (by rw[hp.size];exact hi)]
      rw[e1,e2];exact hp.slot i
     ·have e1:((Fj s).slots++List.replicate (F.ntmps - (Fj s).slots.length) SV.und).getD i .junk= .und\/((Fj s).slots++List.replicate (F.ntmps - (Fj s).slots.length) SV.und).getD i .junk= .junk:=by
       rw[List.getD,List.getElem?_append_right (by omega),List.getElem?_replicate];split
       ·exact .inl rfl
       ·exact .inr rfl
      have e2:(args++Array.replicate (F.ntmps - args.size) undef).getD i undef=undef:=by
       rw[Array.getD_eq_getD_getElem?,Array.getElem?_append_right (by rw[hp.size];omega),Array.getElem?_replicate];split<;>rfl
      rw[e2];rcases e1 with e1 | e1<;>rw[e1]
      ·rfl
      ·trivial
    have hden:stm.den Γ [] s.r [⟨s.p,x⟩]=some y:=by rw[<-hfn];exact hy
    refine Code.wp_mono (fun e a' w' hb' => ?_) (Ka (X:=X) hm (hop X rfl) (Ai4 X) hN c _ _ stm h [] y _ _ w g hi hden);obtain⟨st',ρ1,g',s',q1,q2,q3⟩:=hb';have fin:Ax0 P F s st' = .ok s'→a'.defers=[]/\∃v,(results F a'.tmps).run P w' = .ok v w'∧∃v',(Ending.returned v)= .returned v'∧Azj P s y w g v' w' :=fun hfin=>by
     refine⟨q2.inv.nodef,?_⟩;unfold Ax0 at hfin;obtain⟨cs,hcs,hfin⟩:=Al hfin;split at hfin
     ·cases hfin
     ·rename_i hne;obtain⟨⟨es,st2⟩,ho,hfin⟩:=Al hfin;obtain⟨⟨t,xs⟩,hj,hfin⟩:=Al hfin;simp only[Ag]at hfin;subst hfin;obtain⟨v,hv,hrep⟩:=Alt q2 hcs (by simpa using hne);refine⟨v,hv,v,rfl,?_⟩
      let X1:Ctx:={ X with N:=1 }
      have hi0:Aw X1 NoD { st' with slots:=[Agc cs] } ([⟨s.p,x⟩]++ρ1) { tmps:= #[v],defers:=[] } w' g' :=by
       refine⟨q2.typ,⟨rfl,rfl,⟨q2.inv.ok.chg,q2.inv.ok.base,q2.inv.ok.S,q2.inv.ok.own⟩,fun i=> ?_,q2.inv.row⟩,q2.fixd,q2.dirt⟩;cases i with
       | zero=>exact hrep
       | succ i=>trivial
      obtain⟨ρ2,hev,q3⟩:=X3 _ _ q3;obtain⟨g1,hi1⟩:=Ap6 hi0 (Nat.lt_succ_self 0) ho hev;have ht:t=s.r:=Ant hj rfl;subst ht;obtain⟨g2,hi2⟩:=Ai4 X1 _ _ _ _ [] _ _ w' g1 hj hi1.untk rfl;have hy2:(mkv s.r (xs.map (At.get ([]++ρ2)))).1=y:=by
       simp only[Stm.den,dif_pos,Ah]at q3;exact q3
      rw[hy2]at hi2;refine⟨hi2.inv.ok.chg,g2,fun b l hl=> ?_,fun j hj=> ?_,hi2.inv.slot 0,hi2.inv.row,hi2.inv.ok.S,fun b l hl=>(hi2.inv.ok.own b l hl).2.2⟩
      ·obtain⟨h1,h2,_⟩:=hi2.inv.ok.own b l hl;exact⟨h1,h2⟩
      ·have:=Yy s.ps 0 j hj;rw[Nat.zero_add]at this;exact hi2.fixd j this
    cases e with
    | normal=>exact fin q1
    | ret=>exact fin q1
    | exit id=>cases q1
    | goto l=>cases q1
    | panic ch=>cases q1
    | outgrown=>cases q1
   ·rw[if_pos hc]at h;cases h
end Go.Pu
/-
  Own work. Maps from ints to bools.
-/
namespace Go.Pu
open Go Go.RowKit Go.MapKept
set_option linter.unusedVariables false
set_option linter.unusedSectionVars false
theorem Ae3 {P:Program}{t:TypeId}(h:(Apl P t).isSome=true):∃k e i,P.underlying t=some (.map k e)/\P.underlying k=some (.int .i64)/\P.info? e=some i/\i.zero=some (.bool false):=by
 unfold Apl at h;split at h
 ·rename_i k e hu;split at h
  ·rename_i i hk hi;split at h
   ·rename_i hz;exact⟨k,e,i,hu,hk,hi,hz⟩
   ·cases h
  ·cases h
 ·cases h
def N8 (es:List MapEntry)(kvs:List (Int×Bool)):Prop:=es.map (fun e=>(e.key,e.val))=kvs.map (fun kv=>(Value.int .i64 kv.1,Value.bool kv.2))
theorem Sg:∀(es:List MapEntry) (kvs:List (Int×Bool)) (k:Int) (i0:Nat),N8 es kvs->
 (Instr.findNow (.int .i64) (.int .i64 k) es i0=some none/\(∀b,mset kvs k b=kvs++[(k,b)])/\mget kvs k=false)\/
 ∃(j:Nat) (b:Bool),Instr.findNow (.int .i64) (.int .i64 k) es i0=some (some (i0+j,.bool b))/\kvs[j]? =some (k,b)/\(∀b',mset kvs k b' =kvs.set j (k,b'))/\mget kvs k=b
 | [],[],k,i0,_=> .inl ⟨rfl,fun b=>rfl,rfl⟩
 | e::es,kv::kvs,k,i0,h=>by
  simp only[N8,List.map_cons,List.cons.injEq,Prod.mk.injEq]at h;obtain⟨⟨h1,h2⟩,h3⟩:=h;by_cases hk:k=kv.1
  ·subst hk
   right
   refine⟨0,kv.2,by simp[Instr.findNow,Instr.sameNow,h1,h2],rfl,fun b' =>by simp[mset],by simp[mget]⟩
  ·have hb:(kv.1==k)=false:=by simp;exact fun e=>hk e.symm
   have hb2:(k==kv.1)=false:=by simp;exact hk
   rcases Sg es kvs k (i0+1) h3 with⟨q1,q2,q3⟩ | ⟨j,b,q1,q2,q3,q4⟩
   ·left
    refine⟨by simp only[Instr.findNow,Instr.sameNow,h1,if_true,hb2,q1],fun b=>by simp[mset,hk,q2],?_⟩;simp only[mget]at q3 ⊢;simp only[List.find?_cons,hb];exact q3
   ·right
    refine⟨j+1,b,by simp only[Instr.findNow,Instr.sameNow,h1,if_true,hb2,q1,Ah,Prod.mk.injEq,and_true];omega,by simpa using q2,fun b' =>by simp[mset,hk,q3],?_⟩;simp only[mget]at q4 ⊢;simp only[List.find?_cons,hb];exact q4
 | [],_::_,_,_,h=>by simp[N8]at h
 | _::_,[],_,_,h=>by simp[N8]at h
theorem Any (k:Int):IsKey (.int .i64) (.int .i64 k):=by simp[IsKey]
section
variable {X:Ctx} {D:Nat->Prop} {Γ:List FE} {st:St} {ρ:Env} {a:Act} {w w' :World} {g g' :G}
variable {d:Nat} {x y z:Operand} {t t' ty:TypeId} {ps:String} {af:Array Edge} {gd:Option (Nat×Bool)} {s:Cg} {nr:Bool}
theorem Axf {V:V}(h:V.t= .mp):∃m:List (Int×Bool),V=⟨.mp,m⟩:=by
 obtain⟨t,x⟩:=V;simp only at h;subst h;exact⟨x,rfl⟩
theorem Anz (hi:Aw X D st ρ a w g){r:Nat}{v:At}{m:List (Int×Bool)}(hr:st.rk r= .mp v)(hv:v.get ρ=⟨.mp,m⟩):
 ∃(b clk:Nat) (es:Array MapEntry),g.hdr (r,[])= .map (some b)/\g.own b=some (r,[])/\w.heap[b]? =some (.map es clk)/\N8 es.toList m:=by
 have hrow:A4 X.P w g (r,[]) (.mp m):=by
  refine hi.inv.row (r,[]) _ ?_
  simp only[hr,RK.rows,hv];rw[V.as_self]
 cases hrow with
 | mp _ b clk es hd own heap hes=>exact⟨b,clk,es,hd,own,heap,hes⟩
theorem Al3 {P:Program}{w:World}{b clk:Nat}{es:Array MapEntry}{m:List (Int×Bool)}{k:Int}(ht:(Apl P t).isSome=true)(hb:w.heap[b]? =some (.map es clk))(he:N8 es.toList m):
 (Instr.lookup t (.map (some b)) (.int .i64 k) false).run P w= .ok (.bool (mget m k)) w:=by
 obtain⟨kt,et,i,hu,hk,hinfo,hzero⟩:=Ae3 ht;have hzv:(zeroValue et).run P w= .ok (.bool false) w:=by simp[zeroValue,typeInfo,hinfo,hzero]
 have hfk:∀r,Instr.findNow (.int .i64) (.int .i64 k) es.toList 0=some r->(Instr.findKey kt (.int .i64 k) es.toList).run P w= .ok r w:=fun r h=>run_findKey hk h
 have hck:=run_checkKey (P:=P) (w:=w) hk (Any k) es.isEmpty 9999;unfold Instr.lookup;simp only[Sem.run_bind,run_underlying hu,Result.andThen_ok,MapKept.run_getObj_map hb,Sem.run_pure,hck];rcases Sg es.toList m k 0 he with⟨q1,_,q3⟩ | ⟨j,b',q1,_,_,q4⟩
 ·simp only[hfk _ q1,Result.andThen_ok,Sem.run_bind,hzv,Sem.run_pure,q3];rfl
 ·simp only[hfk _ q1,Result.andThen_ok,Sem.run_pure,q4];rfl
theorem Ap7 (hN:d<X.N)(h:Uq X.P st d t x y= .ok s):Ed X D Γ st ⟨some d,.lookup t x y false,ty,ps,af,gd⟩ s:=by
 unfold Uq at h;have hb1:=Al h
 clear h
 obtain⟨⟨kk,i⟩,hy,h⟩:=hb1;have hb2:=Al h
 clear h
 obtain⟨vx,hx,h⟩:=hb2;obtain⟨y1,y2⟩:=Hx hy;split at h
 case h_2=>cases h
 rename_i r;split at h
 case h_2=>cases h
 rename_i v hr;split at h
 case isFalse=>cases h
 rename_i hc;obtain⟨ht,rfl,hvt,hcl⟩:=hc;simp only[Ag]at h;subst h;refine F2 rfl hN fun ρ a w g v' hi hv' => ?_
 obtain⟨m,hm⟩:=Axf (At.ty_get hi.typ hvt);simp only[Ex.den1,Ex.den,hm,Ah]at hv';subst hv';obtain⟨b,clk,es,q1,q2,q3,q4⟩:=Anz hi hr hm;have hxv:a.eval x= .map (some b):=by
  have:Au w g (.hd (r,[])) (a.eval x):=by simpa[SV.enc,SC.enc,Bp]using Bd hi hx
  rw[Cu this,q1]
 have hyv:=Df hi y1 y2;have hnd:¬D b:=L5 hi q2 (fun _=>by simpa[St.clean]using hcl) (fun h=>absurd rfl h);refine⟨rfl,.bool _,fun w' hcls=> ?_,.bool _⟩;have hrel:=hcls rfl;have hb' :w'.heap[b]? =some (.map es clk):=by rw[hrel.2 b (Array.getElem?_eq_some_iff.1 q3).1 hnd];exact q3
 simp only[execOp,hxv,hyv,Sem.run_bind,Al3 ht hb' q4,Result.andThen_ok,Sem.run_pure]
theorem Ad5 {P:Program}{w:World}{b clk:Nat}{es:Array MapEntry}{m:List (Int×Bool)}{k:Int}{bv:Bool}(ht:(Apl P t).isSome=true)(hb:w.heap[b]? =some (.map es clk))(he:N8 es.toList m):
 ∃es' clk',(Instr.mapUpdate t (.map (some b)) (.int .i64 k) (.bool bv)).run P w= .ok () { w with heap:=w.heap.setIfInBounds b (.map es' clk') }/\N8 es'.toList (mset m k bv):=by
 obtain⟨kt,et,i,hu,hk,hinfo,hzero⟩:=Ae3 ht;have hfk:∀r,Instr.findNow (.int .i64) (.int .i64 k) es.toList 0=some r->(Instr.findKey kt (.int .i64 k) es.toList).run P w= .ok r w:=fun r h=>run_findKey hk h
 have hck:=run_checkKey (P:=P) (w:=w) hk (Any k) false 9999;unfold Instr.mapUpdate;rcases Sg es.toList m k 0 he with⟨q1,q2,_⟩ | ⟨j,b',q1,q2,q3,_⟩
 ·refine⟨es.push { key:= .int .i64 k,val:= .bool bv,born:=clk },clk+1,?_,?_⟩
  ·simp only[Sem.run_bind,run_underlying hu,Result.andThen_ok,MapKept.run_getObj_map hb,hck,hfk _ q1,MapKept.run_setObj_map _ hb]
  ·rw[q2];simp only[N8,Array.toList_push,List.map_append,List.map_cons,List.map_nil]at he ⊢;rw[he]
 ·have hlen:es.toList.length=m.length:=by
   have:=congrArg List.length he;simpa using this
  have hjl:j<m.length:=(List.getElem?_eq_some_iff.1 q2).1;have hj2:j<es.toList.length:=by omega
  have hes:es.toList[j]? =some es.toList[j]:=List.getElem?_eq_getElem hj2;have hkey:es.toList[j].key= .int .i64 k:=by
   have h1:(es.toList.map (fun e=>(e.key,e.val)))[j]? =(m.map (fun kv=>(Value.int .i64 kv.1,Value.bool kv.2)))[j]? :=by rw[he]
   rw[List.getElem?_map,List.getElem?_map,hes,q2]at h1;simp only[Option.map_some,Ah,Prod.mk.injEq]at h1;exact h1.1
  have hes2:es[j]? =some es.toList[j]:=by rw[<-Array.getElem?_toList];exact hes
  refine⟨es.modify j fun e=>{ e with key:= .int .i64 k,val:= .bool bv },clk,?_,?_⟩
  ·have hkt:(Instr.keyThatStays (.int .i64 k) (.int .i64 k)).run P w= .ok (.int .i64 k) w:=by
    simp[Instr.keyThatStays,Instr.sameBits]
   simp only[Sem.run_bind,run_underlying hu,Result.andThen_ok,MapKept.run_getObj_map hb,hck,hfk _ q1,Nat.zero_add,hes2,Option.map_some,Option.getD_some,hkey,hkt,MapKept.run_setObj_map _ hb]
  ·rw[q3];simp only[N8]at he ⊢;apply List.ext_getElem?;intro n;have hn:(es.toList.map (fun e=>(e.key,e.val)))[n]? =(m.map (fun kv=>(Value.int .i64 kv.1,Value.bool kv.2)))[n]? :=by rw[he]
   rw[List.getElem?_map,List.getElem?_map]at hn ⊢;have hmod:(es.modify j fun e=>{ e with key:= .int .i64 k,val:= .bool bv }).toList[n]? =if j=n then(es.toList[n]?).map (fun e=>{ e with key:= .int .i64 k,val:= .bool bv })else es.toList[n]? :=by
    rw[Array.getElem?_toList,Array.getElem?_modify,Array.getElem?_toList]
   rw[hmod];by_cases e:j=n
   ·subst e;rw[if_pos rfl,hes,List.getElem?_set_self hjl];rfl
   ·rw[if_neg e,List.getElem?_set_ne e];exact hn
theorem Avm (h:GOK X g w){b:Nat}{l:Loc}(ho:g.own b=some l)(o:Obj):GOK X g { w with heap:=w.heap.setIfInBounds b o }:=by
 obtain⟨h1,h2,h3⟩:=h.own b l ho;have hs:({ w with heap:=w.heap.setIfInBounds b o }:World).heap.size=w.heap.size:=by simp
 refine⟨h.chg.trans ⟨rfl,rfl,rfl,by rw[hs];exact Nat.le_refl _,fun k hk hO=> ?_⟩,by rw[hs];exact h.base,fun b' hb' =>by rw[hs];exact h.S b' hb',fun b' l' hl=>by rw[hs];exact h.own b' l' hl⟩;have:b≠k:=by
  intro e;subst e
  rcases h1 with h1 | h1
  ·exact hO h1
  ·omega
 simp[Array.getElem?_setIfInBounds_ne this]
theorem Agy (h:N2 X.P st t x y z= .ok s):I9 X D Γ false st ⟨none,.mapUpdate t x y z,ty,ps,af,gd⟩ s:=by
 unfold N2 at h;have hb1:=Al h
 clear h
 obtain⟨⟨kk,i⟩,hy,h⟩:=hb1;have hb2:=Al h
 clear h
 obtain⟨bx,hz,h⟩:=hb2;have hb3:=Al h
 clear h
 obtain⟨vm,hx,h⟩:=hb3;obtain⟨y1,y2⟩:=Hx hy;obtain⟨z1,z2⟩:=Xr hz;split at h
 case h_2=>cases h
 rename_i r;split at h
 case h_2=>cases h
 rename_i v hr;split at h
 case isFalse=>cases h
 rename_i hc;obtain⟨ht,rfl,hvt,hdty⟩:=hc;have hdty:st.dirty=[]:=by simpa using hdty
 simp only[Ag]at h;subst h;intro ρ ρ' a w g hi hw hk hev;obtain⟨v',hv',rfl⟩:=Eo hev;obtain⟨m,hm⟩:=Axf (At.ty_get hi.typ hvt);simp only[Ex.den1,Ex.den,hm,Ah]at hv';subst hv';obtain⟨b,clk,es,q1,q2,q3,q4⟩:=Anz hi hr hm;have hxv:a.eval x= .map (some b):=by
  have:Au w g (.hd (r,[])) (a.eval x):=by simpa[SV.enc,SC.enc,Bp]using Bd hi hx
  rw[Cu this,q1]
 have hyv:=Df hi y1 y2;have hzv:=Kt hi z1 z2;obtain⟨es',clk',hrun,he'⟩:=Ad5 (t:=t) (k:=(i.get ρ).int) (bv:=(bx.get ρ).bool) ht q3 q4;unfold Oper.wp;simp only[execOp,hxv,hyv,hzv,Sem.run_bind,hrun,Result.andThen_ok,Sem.run_pure,Oper.upon];refine⟨fun e=>(by cases e),g,?_⟩;have hi2:=hi.bindOne hw (v:=⟨.mp,mset m (i.get ρ).int (bx.get ρ).bool⟩) rfl;have hob:=hi.inv.ok.own b _ q2;have hother:∀b2,b2≠b->({ w with heap:=w.heap.setIfInBounds b (.map es' clk') }:World).heap[b2]? =w.heap[b2]? :=fun b2 hb2=>by simp[Array.getElem?_setIfInBounds_ne (Ne.symm hb2)]
 have S:Rw (st.bind .mp).nr false r w g { w with heap:=w.heap.setIfInBounds b (.map es' clk') } g:=P6 q2 hob.2.2 hother;have hput:Aw X D { (((st.bind .mp).kill false r).setR r (.mp st.ref))with dirty:=st.dirty } (ρ++[⟨.mp,mset m (i.get ρ).int (bx.get ρ).bool⟩]) a { w with heap:=w.heap.setIfInBounds b (.map es' clk') } g:=by
  refine hi2.mut (Cv hk _) S (Avm hi.inv.ok q2 _) _ (fun p row hp=> ?_) (fun h=>by cases h) (fun b2 l hl hb2=>⟨hb2,hother b2 fun e0=>by subst e0;rw[q2]at hb2;cases hb2;exact hl rfl⟩) st.dirty hi.dirt;cases p with
  | cons q p=>simp[RK.rows]at hp
  | nil=>
   simp only[RK.rows,Ah]at hp;subst hp;rw[Ff hi.len,V.as_self];exact .mp _ b clk' es' q1 q2 (by simp[Array.getElem?_setIfInBounds_self_of_lt (Array.getElem?_eq_some_iff.1 q3).1]) he'
 exact hput
end
end Go.Pu
/-
  Own work. Owned lists cut down to a part.
-/
namespace Go.Pu
open Go Go.RowKit
set_option linter.unusedVariables false
set_option linter.unusedSectionVars false
section
variable {X:Ctx} {D:Nat->Prop} {Γ:List FE} {st:St} {ρ:Env} {a:Act} {w w' :World} {g g' :G}
variable {d:Nat} {x y z:Operand} {t t' ty:TypeId} {ps:String} {af:Array Edge} {gd:Option (Nat×Bool)} {s:Cg} {nr:Bool}
theorem J4 {b:Ty}{r:Nat}{xs:List b.den}(i:Nat)(c:List C)(h:(xs.mapIdx fun i y=>Bk none r i b y)[i]? =some c):c.length=b.n:=by
 rw[List.getElem?_mapIdx,Option.map_eq_some_iff]at h;obtain⟨y,_,rfl⟩:=h;exact Bf _ _ _ _ _
theorem N9 {b:Ty}(hf:b.flat=true){r:Nat}{rg:Rg}{xs:List b.den}(i:Nat)(c:List C)(h:(xs.mapIdx fun i y=>Bk none r i b y)[i]? =some c):(List.map (enc rg b) xs)[i]? =some c:=by
 rw[List.getElem?_mapIdx,Option.map_eq_some_iff]at h;obtain⟨y,hy,rfl⟩:=h;rw[List.getElem?_map,hy];simp only[Bk,Option.map_some,D8 r i rg 0 b y hf]
theorem Asp {rg:Rg}{els:List (List C)}{u:Value}{A:Option Addr}{n c:Nat}(h:Au w g (.ro rg els) u)(hu:u= .slice A n c):(els=[]/\n=0)\/∃(b off s:Nat) (f:Nat->Nat->Value),A=some ⟨b,off,none⟩/\n=els.length/\n<=c/\
 (∀(i:Nat) (cs:List C),els[i]? =some cs->cs.length=s)/\∀(i:Nat) (cs:List C) (k:Nat) (q:C),els[i]? =some cs->cs[k]? =some q->w.cell? ⟨b,off+(i*s+k),none⟩=some (f i k)/\Au w g q (f i k):=by
 cases h with
 | ro0 _ A' cap=>cases hu;exact .inl ⟨rfl,rfl⟩
 | ro _ _ b' off n' cap' s' f' hn' hc' hm' hS' hs' hsz' hcell' hrep' =>
  cases hu;exact .inr ⟨b',off,s',f',rfl,hn',hc',hsz',fun i cs k q q1 q2=>⟨hcell' i cs k q q1 q2,hrep' i cs k q q1 q2⟩⟩
theorem Ae4 (hi:Aw X D st ρ a w g){r:Nat}{xx:At}{st1:St}(h:Re X.P st r xx= .ok st1){lo hi' :Option At}{v:Value}(hv:Au w g ((SC.hs r lo hi' xx).enc ρ) v):
 ∃g1,Aw X D st1 ρ a w g1/\g1.hdr (r,[])=v/\g1.own=g.own/\g1.S=g.S/\(∀l,l≠(r,[])->g1.hdr l=g.hdr l):=by
 unfold Re at h;split at h
 case h_2=>cases h
 rename_i e b v0 nl hr;split at h
 case isFalse=>cases h
 rename_i hc;obtain⟨hf,hxt,hbn,h0,hfix,hk⟩:=hc;simp only[Ag]at h;subst h;have hfix:st.fix.contains r=false:=by simpa using hfix
 have hrow0:=Ee hi hr;have hxg:=V.list_of (At.ty_get hi.typ hxt);simp only[SC.enc]at hv;have hv1:=Rq hv;have hv2:=Hv hv;rw[hxg]at hv1 hv2;generalize hys:(xx.get ρ).as (.sl e b)=ys at hv1 hv2 hxg;simp only[V.esz,V.len,V.els]at hv1 hv2;have hvv:v=Aan (g.hdr (r,[])) b.n (Xq ρ lo) ys.length:=by cases hv1;assumption
 let g1:G:={ S:=g.S,own:=g.own,hdr:=fun l=>if l=(r,[])then v else g.hdr l }
 have hh:∀l,l≠(r,[])->g1.hdr l=g.hdr l:=fun l h=>by simp only[g1];rw[if_neg h]
 have hh0:g1.hdr (r,[])=v:=by simp only[g1,if_true]
 have hok:=hi.inv.ok;refine⟨g1,?_,hh0,rfl,rfl,hh⟩;have hm:=hi.mut hk (all:=true) (r:=r) (w' :=w) (g' :=g1) ⟨fun l h1 h2 h3=>hh l (fun e0=>by subst e0;rcases h1 with h1 | h1;cases h1;exact h1 rfl),fun rg _ _ b0 hb0=>⟨hb0,rfl⟩⟩ ⟨hok.chg,hok.base,hok.S,hok.own⟩ (.list e b xx false none) (fun p row hp=> ?_) (fun _=>hfix) (fun b0 l _ hb0=>⟨hb0,rfl⟩) st.dirty hi.dirt
 ·exact hm
 cases p with
 | cons q p=>
  obtain⟨_,rfl,y',_,hs⟩:=Bl hp;rw[Mq _ _ _ _ hf]at hs;cases hs
 | nil=>
  rw[A6,hys]at hp;cases hp;have hnil:ys=[]->(∃A,v= .slice A 0 0)->A4 X.P w g1 (r,[]) (.row false false e (ys.mapIdx fun i y=>Bk none r i b y)):=fun h1 ⟨A,h2⟩=>by
   subst h1;cases A with
   | none=>exact .nil _ _ (hh0.trans h2)
   | some A=>exact .zero _ A (hh0.trans h2)
  have hle:∀{A:Option Addr} {n c:Nat},v= .slice A n c->n=ys.length->ys.length<=c:=fun {A n c} h1 h2=>by
   rcases Asp hv2 h1 with⟨h3,h4⟩ | ⟨b',off,s',f',h3,h4,h5,_⟩
   ·omega
   ·omega
  generalize ((v0.get ρ).as (.sl e b)).mapIdx (fun i y=>Bk none r i b y)=els0 at hrow0;cases hrow0 with
  | nil _ _ hd=>
   rw[hd]at hvv;simp only[Aan]at hvv;have h1:=hle hvv rfl;have h2:ys.length=0:=by omega
   exact hnil (List.eq_nil_of_length_eq_zero h2) ⟨_,by rw[hvv,h2,Nat.zero_sub]⟩
  | zero _ A hd=>
   rw[hd]at hvv;simp only[Aan]at hvv;have h1:=hle hvv rfl;have h2:ys.length=0:=by omega
   exact hnil (List.eq_nil_of_length_eq_zero h2) ⟨_,by rw[hvv,h2,Nat.zero_sub]⟩
  | full _ _ _ _ bb base n cap cs f hrf=>
   have hd:g.hdr (r,[])= .slice (some ⟨bb,base,none⟩) n cap:=hrf.hd;rw[hd]at hvv;simp only[Aan]at hvv;have h1:=hle hvv rfl;by_cases hcl:cap - Xq ρ lo=0
   ·have h2:ys.length=0:=by omega
    exact hnil (List.eq_nil_of_length_eq_zero h2) ⟨_,by rw[hvv,h2,hcl]⟩
   ·have hne:¬cap=Xq ρ lo:=by omega
    rw[if_neg hne]at hvv;simp only[Option.map_some,Gz]at hvv;have hcellT:∀(i:Nat) (c:List C) (k:Nat) (q:C),(ys.mapIdx fun i y=>Bk none r i b y)[i]? =some c->c[k]? =some q->∃u,w.cell? ⟨bb,base+Xq ρ lo*b.n+(i*b.n+k),none⟩=some u/\Au w g q u:=fun i c k q q1 q2=>by
     have q3:=N9 hf (rg:=some r) i c q1;rcases Asp hv2 hvv with⟨h3,_⟩ | ⟨b',off,s',f',h3,h4,h5,h6,h7⟩
     ·rw[h3]at q3;cases q3
     ·cases h3;have hss:s' =b.n:=by rw[<-h6 i c q3,J4 i c q1]
      subst hss;exact⟨_,(h7 i c k q q3 q2).1,(h7 i c k q q3 q2).2⟩
    refine .full _ _ _ _ bb (base+Xq ρ lo*b.n) ys.length (cap - Xq ρ lo) cs (fun i k=>cs.getD (base+Xq ρ lo*b.n+(i*b.n+k)) undef) ⟨hh0.trans hvv,hrf.own,hrf.heap,by simp,h1,by have:=hrf.hmax;omega,?_,hrf.pos,fun i c hc=>by rw[J4 i c hc,hbn],fun i c k q q1 q2=> ?_,fun i c k q q1 q2=> ?_,fun h=>by cases h⟩
    ·have:=hrf.fit;rw[<-hbn]at this ⊢;rw[Nat.sub_mul];have:Xq ρ lo*b.n<=cap*b.n:=Nat.mul_le_mul_right _ (by omega);omega
    ·obtain⟨u,hu,_⟩:=hcellT i c k q q1 q2;rw[cell_of_row w bb _ cs e (0,0) hrf.heap]at hu;rw[<-hbn,Array.getD_eq_getD_getElem?,hu];rfl
    ·obtain⟨u,hu,hr⟩:=hcellT i c k q q1 q2;rw[cell_of_row w bb _ cs e (0,0) hrf.heap]at hu;have hq:=N9 hf (rg:=none) i c q1;rw[List.getElem?_map,Option.map_eq_some_iff]at hq;obtain⟨y2,hy2,rfl⟩:=hq;show Au w g1 q (cs.getD (base+Xq ρ lo*b.n+(i*b.n+k)) undef);rw[Array.getD_eq_getD_getElem?,hu];exact Ry hr (L6 b y2 k q hf q2)
theorem Al4 (hN:d<X.N)(h:Rf X.P st d x= .ok s):Ed X D Γ st ⟨some d,.assign x,ty,ps,af,gd⟩ s:=by
 unfold Rf at h;obtain⟨v,hv,h⟩:=Al h;split at h
 ·rename_i r lo hi' xx;obtain⟨st1,h1,h⟩:=Al h;simp only[Ag]at h;subst h;intro ρ ρ' a w g hi hw he;have:=Db he;subst this;have hr:Au w g ((SC.hs r lo hi' xx).enc ρ') (a.eval x):=Bd hi hv;obtain⟨g1,hi1,q1,_⟩:=Ae4 hi h1 hr;exact⟨_,fun _ _=>rfl,g1,hi1.put hN (.hd _ _ q1.symm)⟩
 ·rename_i hnot;refine Apv hN h fun r lo hi' v' e0=> ?_
  rw[hv]at e0;cases e0;exact hnot _ _ _ _ rfl
theorem Al5 (hN:d<X.N){r:Nat}{lo hi' :Option At}{xx:At}{sy:SV}(hx:st.val x= .ok (.c (.hs r lo hi' xx)))(hy:st.val y= .ok sy)(h:Af6 X.P st d t r xx sy= .ok s):
 I9 X D Γ false st ⟨some d,.call { callee:= .builtin .append,args:= #[x,y],argTypes:= #[t,t] },ty,ps,af,gd⟩ s:=by
 unfold Af6 at h;split at h
 case h_2=>cases h
 rename_i src;obtain⟨v2,hl,h⟩:=Al h;obtain⟨st1,h1,h⟩:=Al h;split at h
 case h_2=>cases h
 rename_i e e' b v nl he hr1;by_cases hc:(e=e'∧v2.ty st.ts=some (.sl e b)/\xx.ty st.ts=some (.sl e b)/\0<De X.P e/\Kq X.P e=some b.n/\st.wf=true/\st.dirty.isEmpty=true)
 case neg=>rw[if_pos hc]at h;cases h
 rw[if_neg (fun hh=>hh hc)]at h;simp only[Ag]at h;subst h;obtain⟨rfl,hv2t,hxt,hby0,hz,_,hdty⟩:=hc;have hdty:st.dirty=[]:=by simpa using hdty
 intro ρ ρ' a w g hi hw hk hev;have hcom:=h1;unfold Re at hcom;split at hcom
 case h_2=>cases hcom
 rename_i e2 b2 v0 nl0 hr0;split at hcom
 case isFalse=>cases hcom
 rename_i hc2;obtain⟨hf,hxt2,hbn,h0,hfix,hk0⟩:=hc2;rw[hxt]at hxt2;simp only[Ah,Ty.sl.injEq]at hxt2;obtain⟨rfl,rfl⟩:=hxt2;have hfix:st.fix.contains r=false:=by simpa using hfix
 have hxr:Au w g ((SC.hs r lo hi' xx).enc ρ) (a.eval x):=Bd hi hx;have hyr:Au w g (src.enc ρ) (a.eval y):=Bd hi hy;obtain⟨g1,hi1,q1,q2,q3,q4⟩:=Ae4 hi h1 hxr;simp only[Ag]at hcom;have hxg:=V.list_of (At.ty_get hi.typ hxt);have hvg2:=V.list_of (At.ty_get hi.typ hv2t);have hty2:st.ty v2= .ok (.sl e b):=by unfold St.ty;rw[hv2t]
 obtain⟨A,cap2,fn,hye,hcells,hreps⟩:=Aim hi hf hbn h0 hyr hl hty2;generalize hys:(v2.get ρ).as (.sl e b)=ys at hye hcells hreps hvg2

 have hrk1:st1.rk r= .list e b xx false none\/st1.rk r= .dead:=by rw[<-hcom];exact Zx _ _ _
 have hrow1:A4 X.P w g1 (r,[]) (.row false false e (((xx.get ρ).as (.sl e b)).mapIdx fun i y=>Bk none r i b y)):=by
  rcases hrk1 with e0 | e0
  ·exact Ee hi1 e0
  ·rw[e0]at hr1;cases hr1
 generalize hxs:(xx.get ρ).as (.sl e b)=xs at hrow1 hxg;obtain⟨v',hv',rfl⟩:=Eo hev;simp only[Ex.den1,Ex.den,hxg,hvg2,V.as_self,Option.bind_eq_some_iff,Ah]at hv';obtain⟨zs,hzs',rfl⟩:=hv';obtain⟨fit1,fit2,rfl⟩:=gapp_ok hzs';obtain⟨ti,z,hinfo,hzero,hzs⟩:=J3 hz;have hu:=Do he;have hl1:(xs.mapIdx fun i y=>Bk none r i b y).length=xs.length:=by simp
 have hl2:(List.map (enc none b) ys).length=ys.length:=by simp
 have hs1:∀(i:Nat) (c:List C),(xs.mapIdx fun i y=>Bk none r i b y)[i]? =some c->c.length=Az X.P e:=fun i c hc=>by rw[J4 i c hc,hbn]
 have hs2:∀(i:Nat) (c:List C),(List.map (enc none b) ys)[i]? =some c->c.length=Az X.P e:=fun i c hc=>by
  rw[List.getElem?_map,Option.map_eq_some_iff]at hc;obtain⟨y2,_,rfl⟩:=hc;rw[A2,hbn]
 have hsc1:∀(i:Nat) (c:List C) (k:Nat) (q:C),(xs.mapIdx fun i y=>Bk none r i b y)[i]? =some c->c[k]? =some q->(∃kd z,q= .int kd z)\/(∃bv,q= .bool bv):=fun i c k q h1 h2=>by
  have hq:=N9 hf (rg:=none) i c h1;rw[List.getElem?_map,Option.map_eq_some_iff]at hq;obtain⟨y2,_,rfl⟩:=hq;exact L6 b y2 k q hf h2
 have hsc2:∀(i:Nat) (c:List C) (k:Nat) (q:C),(List.map (enc none b) ys)[i]? =some c->c[k]? =some q->(∃kd z,q= .int kd z)\/(∃bv,q= .bool bv):=fun i c k q h1 h2=>by
  rw[List.getElem?_map,Option.map_eq_some_iff]at h1;obtain⟨y2,_,rfl⟩:=h1;exact L6 b y2 k q hf h2
 have hCs:∀{q:C} {pl:Loc->Prop} {pr:Rg->Prop},((∃kd z,q= .int kd z)\/(∃bv,q= .bool bv))->C.Ok pl pr q:=fun {q pl pr} h=>by
  rcases h with⟨kd,z,rfl⟩ | ⟨bv,rfl⟩
  ·exact .int _ _
  ·exact .bool _
 obtain⟨v1,w',g2,hrun,hA,hrw⟩:=Se (t:=t) (ty:=ty) (A:=A) (cap2:=cap2) (fn:=fn) (els2:=List.map (enc none b) ys) hi1.inv.ok hrow1 hu hinfo hzero (by rw[hzs,hbn]) (by omega) hs1 hs2 (by simp only[hl1,hl2,Aao,decide_eq_true_eq];exact⟨fit1,fit2⟩) hby0 (fun hne=>by
  obtain⟨ad,h2,h3⟩:=hcells (fun e0=>hne (by rw[e0];rfl));exact⟨ad,h2,fun i k h4 h5=>h3 i k (by rw[hl2]at h4;exact h4) h5⟩) (fun i c k q h1 h2=>by
  have hsc:=hsc2 i c k q h1 h2;rw[List.getElem?_map,Option.map_eq_some_iff]at h1;obtain⟨y2,hy2,rfl⟩:=h1;have hr:=hreps i y2 k q hy2 h2;exact⟨Ry hr hsc,Ain hr hsc⟩) (fun i c k q h1 h2=>hCs (hsc1 i c k q h1 h2)) (fun i c k q h1 h2=>hCs (hsc2 i c k q h1 h2))
 rw[hl2,q1]at hrun;have hexec:(execOp a.eval ⟨some d,.call { callee:= .builtin .append,args:= #[x,y],argTypes:= #[t,t] },ty,ps,af,gd⟩).run X.P w= .ok (.value v1) w' :=by
  simp only[execOp,resolve,invoke,builtin,Sem.run_bind,Sem.run_pure,Result.andThen_ok,List.map_toArray,List.map_cons,List.map_nil,hye,hrun]
 unfold Oper.wp;rw[hexec];refine⟨fun e=>(by cases e),?_⟩;have hi2:=hi.bindOne hw (v:=⟨.sl e b,xs++ys⟩) rfl;have hok:=hi.inv.ok;have S:Rw (st.bind (.sl e b)).nr true r w g w' g2:=⟨fun l h1 h2 h3=>by
  have hne:l≠(r,[]):=fun e0=>by subst e0;rcases h1 with h1 | h1;cases h1;exact h1 rfl
  rw[hA.hdr l hne,q4 l hne],fun rg hne2 _ b0 hb0=>by
  cases rg with
  | none=>
   have hS:g.S b0:=hb0;exact⟨by show g2.S b0;rw[hA.S,q3];exact hS,hA.keep b0 (hok.S b0 hS).1 fun ho=>(hok.own b0 _ (by rw[<-q2];exact ho)).2.2 hS⟩
  | some r' =>
   rcases hb0 with hS | ⟨q,ho⟩
   ·exact⟨.inl (by rw[hA.S,q3];exact hS),hA.keep b0 (hok.S b0 hS).1 fun ho=>(hok.own b0 _ (by rw[<-q2];exact ho)).2.2 hS⟩
   ·exact⟨.inr ⟨q,hA.own _ _ (by rw[q2];exact ho)⟩,hA.keep b0 (hok.own b0 _ ho).2.1 fun ho2=>by rw[q2,ho]at ho2;cases ho2;exact hne2 rfl⟩⟩
 have hval:((At.r ⟨st.nx,[]⟩).get (ρ++[⟨.sl e b,xs++ys⟩])).as (.sl e b)=xs++ys:=by
  have h2:(At.r ⟨st.nx,[]⟩).get (ρ++[⟨.sl e b,xs++ys⟩])=⟨.sl e b,xs++ys⟩:=Ff hi.len;rw[h2];exact V.as_self _ _
 have hm:Aw X D { (((st.bind (.sl e b)).kill true r).setR r (.list e b (.r ⟨st.nx,[]⟩) false none))with dirty:=st.dirty } (ρ++[⟨.sl e b,xs++ys⟩]) a w' g2:=by
  refine hi2.mut (Cv hk _) S hA.ok _ (fun p row hp=> ?_) (fun _=>hfix) (fun b0 l hl ho=>⟨hA.own _ _ (by rw[q2];exact ho),hA.keep b0 (hok.own b0 _ ho).2.1 fun ho2=>by rw[q2,ho]at ho2;cases ho2;exact hl rfl⟩) st.dirty ⟨fun b0 hb0=>absurd hb0 (noD hi hdty b0),fun r0 b0 q hq=>by rw[hdty]at hq;cases hq⟩;cases p with
  | cons q p=>
   obtain⟨_,rfl,y',_,hs⟩:=Bl hp;rw[Mq _ _ _ _ hf]at hs;cases hs
  | nil=>
   rw[A6,hval]at hp;cases hp;have hel:((xs++ys).mapIdx fun i y=>Bk none r i b y)=(xs.mapIdx fun i y=>Bk none r i b y)++List.map (enc none b) ys:=by
    apply List.ext_getElem?;intro i;rw[List.getElem?_mapIdx,List.getElem?_append,List.getElem?_append,hl1];split
    ·rw[List.getElem?_mapIdx]
    ·rw[List.getElem?_map]
     congr 1
     funext y2
     simp only[Bk,D8 r i none 0 b y2 hf]
   rw[hel];exact hrw
 exact⟨g2,Aw.put hm hN (.hd _ _ hA.top.symm)⟩
end
end Go.Pu
/-
  Own work. The law of operations.
-/
namespace Go.Pu
open Go Go.RowKit
set_option linter.unusedVariables false
theorem X8 {α:Type}{xs:Array α}{l:List α}(h:xs.toList=l):xs=l.toArray:=by subst h;simp
theorem Asq {X:Ctx}{D:Nat->Prop}{Γ:List FE}{ss:List Sig}{st:St}{d:Nat}{x:Operand}{ty:TypeId}{ps:String}{af:Array Edge}{gd:Option (Nat×Bool)}{s:Cg}{nr:Bool}(hS:Nh X.P ss Γ)(hN:d<X.N){args:Array Operand}{ats:Array TypeId}{f:FuncId}{caps:List SC}(hx:st.val x= .ok (.c (.fn f caps)))(h:Rm st ss d f args.toList caps= .ok s)
 (hnr:nr=true->∀sg,Yo st ss f args.toList=some sg->sg.flags.isEmpty=true):I9 X D Γ nr st ⟨some d,.call { callee:= .value x,args:=args,argTypes:=ats },ty,ps,af,gd⟩ s:=by
 have hd:st.dirty=[]:=by
  unfold Rm at h;split at h
  ·split at h
   ·cases h
   ·rename_i hc;have hc:=Decidable.of_not_not hc;simpa using hc
  ·cases h
 intro ρ ρ' a w g hi hw hk hev;have hn:=noD hi hd;have hi0:Aw X NoD st ρ a w g:=⟨hi.typ,hi.inv,hi.fixd,fun b hb=>hb.elim,fun r b q hq=>by rw[hd]at hq;cases hq⟩;refine Oper.wp_mono (fun a' w' q=>⟨fun e=>⟨(q.1 e).1,fun b hb _=>(q.1 e).2 b hb id⟩,?_⟩) (Avk hS hN hx h hnr ρ ρ' a w g hi0 hw hk hev);obtain⟨g',h'⟩:=q.2;exact⟨g',h'.typ,h'.inv,h'.fixd,fun b hb=>absurd hb (hn b),fun r b q hq ho hne=>(h'.dirt.2 r b q hq ho hne).elim⟩
theorem Ayd {X:Ctx}{Γ:List FE}{ss:List Sig}(hS:Nh X.P ss Γ):Yt X Γ ss:=by
 intro D st o s nr hd h hnr;obtain⟨dst,op,ty,ps,af,gd⟩:=o;unfold Alb at h;have dlt:∀d,dst=some d->d<X.N:=fun d e=>by subst e;simpa[Arp]using hd
 simp only at h dlt;split at h
 ·exact⟨fun _=>Au8 (dlt _ rfl) h,fun e=>by cases e⟩
 ·exact⟨fun _=>Al4 (dlt _ rfl) h,fun e=>by cases e⟩
 ·exact⟨fun _=>pick_ok (dlt _ rfl) h,fun e=>by cases e⟩
 ·exact⟨fun _=>Ax3 (dlt _ rfl) h,fun e=>by cases e⟩
 ·exact⟨fun _=>Ax4 (dlt _ rfl) h,fun e=>by cases e⟩
 ·exact⟨fun _=>Ax5 (dlt _ rfl) h,fun e=>by cases e⟩
 ·exact⟨fun _=>Ava (dlt _ rfl) h,fun e=>by cases e⟩
 ·exact⟨fun _=>Aie (dlt _ rfl) h,fun e=>by cases e⟩
 ·exact⟨fun _=>Alh (dlt _ rfl) h,fun e=>by cases e⟩
 ·exact⟨fun e=>(by cases e),fun _=>Ar6 (dlt _ rfl) h⟩
 ·exact⟨fun e=>(by cases e),fun _=>Ax9 (dlt _ rfl) h⟩
 ·exact⟨fun e=>(by cases e),fun _=>Ar7 (dlt _ rfl) h⟩
 ·exact⟨fun e=>(by cases e),fun _=>Abu (dlt _ rfl) h⟩
 ·exact⟨fun e=>(by cases e),fun _=>Ave (dlt _ rfl) h⟩
 ·exact⟨fun _=>Aih (dlt _ rfl) h,fun e=>by cases e⟩
 ·simp only[Ag]at h;subst h;exact⟨fun e=>(by cases e),fun _=>All (dlt _ rfl)⟩
 ·exact⟨fun _=>Avd (dlt _ rfl) h,fun e=>by cases e⟩
 ·exact⟨fun _=>Ap7 (dlt _ rfl) h,fun e=>by cases e⟩
 ·refine⟨fun e=>(by cases e),fun _=> ?_⟩;have e:nr=false:=by
   cases nr with
   | false=>rfl
   | true=>exact absurd (hnr rfl) (by simp[Aia])
  subst e;exact Agy h
 ·refine⟨fun e=>(by cases e),fun _=> ?_⟩;have e:nr=false:=by
   cases nr with
   | false=>rfl
   | true=>exact absurd (hnr rfl) (by simp[Aia])
  subst e;exact Asn h
 ·exact⟨fun _=>Agk (dlt _ rfl) h,fun e=>by cases e⟩
 ·exact⟨fun _=>Ar5 (dlt _ rfl) h,fun e=>by cases e⟩
 ·exact⟨fun _=>Agl (dlt _ rfl) h,fun e=>by cases e⟩
 ·exact⟨fun _=>Ar3 (dlt _ rfl) h,fun e=>by cases e⟩
 ·rename_i c d;obtain⟨callee,args,ats⟩:=c;simp only at h;split at h
  ·rename_i x t h1 h2;have e1:=X8 h1;have e2:=X8 h2;subst e1 e2;exact⟨fun _=>Ax6 (dlt _ rfl) h,fun e=>by cases e⟩
  ·rename_i x y h1;have e1:=X8 h1;subst e1;exact⟨fun _=>Aeq (mn:=true) (dlt _ rfl) h,fun e=>by cases e⟩
  ·rename_i x y h1;have e1:=X8 h1;subst e1;exact⟨fun _=>Aeq (mn:=false) (dlt _ rfl) h,fun e=>by cases e⟩
  ·rename_i x y t t' h1 h2;have e1:=X8 h1;have e2:=X8 h2;subst e1 e2;split at h
   ·rename_i e;subst e;unfold Anf at h;obtain⟨vx,hvx,h⟩:=Al h;refine⟨fun e=>(by cases e),fun _=> ?_⟩;split at h
    ·rename_i r i k xx;refine Aso (dlt _ rfl) hvx (fun e=> ?_) h;have:=hnr e;simpa[Aia,hvx,SV.isNil,Zt]using this
    ·rename_i r lo hi' xx;obtain⟨vy,hvy,h⟩:=Al h;have e:nr=false:=by
      cases nr with
      | false=>rfl
      | true=>exact absurd (hnr rfl) (by simp[Aia,hvx,SV.isNil,Zt])
     subst e;exact Al5 (dlt _ rfl) hvx hvy h
    ·rename_i hnot _;obtain⟨vy,hvy,h⟩:=Al h;have hnil:nr=true->vx.isNil=true:=fun e=>by
      have:=hnr e;simp only[Aia,List.head?_cons,Option.map_some,hvx,Bool.or_eq_true]at this;rcases this with h1 | h1
      ·exact h1
      ·unfold Zt at h1;split at h1
       ·exact absurd rfl (hnot _ _ _ _)
       ·cases h1
     split at h
     ·split at h
      ·split at h
       ·exact Apw (dlt _ rfl) hvx hvy h hnil
       ·exact Abx (dlt _ rfl) hvx hvy h hnil
      ·cases h
     ·cases h
   ·cases h
  ·rename_i x h1;obtain⟨v,hv,h⟩:=Al h;split at h
   ·rename_i f caps;refine⟨fun e=>(by cases e),fun _=>Asq hS (dlt _ rfl) hv h fun e sg hsg=> ?_⟩;have:=hnr e;simpa[Aia,hv,hsg]using this
   ·cases h
  ·cases h
 ·cases h
theorem A4y {P:Program}{ss:List Sig}{Γ:List FE}{an:Ann}{s:Sig}{stm:Stm}{fn:s.p.den->Option s.r.den}(hm:P.follows .mixedOrders=true)(hS:Nh P ss Γ)(h:Aa1 P ss an s= .ok stm)
 (hname : (match P.funcs[s.f]? with | some F => F.name == "runtime.NumGoroutine" | none => true) = false) (hfn : ∀ x, fn x = stm.den Γ [] s.r [⟨s.p, x⟩]) : Ja P s fn :=
 Avl hm (fun X hX=>by subst hX;exact Ayd hS) h hname hfn
end Go.Pu
/-
  Own work. From what the row's reading says of the arguments to the contract's arguments, and back.
-/
namespace Go.Pu
open Go Go.ChangeShapes Go.WideShapes Go.ChangeAt Go.RowKit
set_option linter.unusedVariables false
def InR:(t:Ty)->t.den->Prop
 | .int _,z=> -9223372036854775808<=z/\z<=9223372036854775807
 | .bool,_=>True
 | .unit,_=>True
 | .pr a b,x=>InR a x.1/\InR b x.2
 | .sl _ a,xs=>List.length xs<=maxLen/\∀(y:a.den),y∈(show List a.den from xs)->InR a y
 | .mp,_=>True
def Wj (P:Program):List Field->Nat->Nat->Bool
 | [],o,m=>Nat.beq o m
 | f::fs,o,m=>Nat.beq f.offset o && Wj P fs (o+P.cellsOf f.type) m
def okT (P:Program):Nat->TypeId->Bool
 | 0,_=>false
 | n+1,t=>match P.underlying t with
  | some (.int .i64)=>true
  | some (.int .u8)=>true
  | some .bool=>true
  | some (.slice e)=>Nat.blt 0 (P.cellsOf e) && okT P n e
  | some (.struct fs)=>Wj P fs.toList 0 (P.cellsOf t) && fs.toList.all (fun f=>okT P n f.type)
  | _=>false
theorem Avn {w:World}{a:Addr}{v:Value}(h:w.cell? a=some v):a.block<w.heap.size/\a.spot=none:=by
 unfold World.cell? at h;cases hh:w.heap[a.block]? with
 | none=>rw[hh]at h;cases h
 | some o=>
  rw[hh]at h;refine⟨(Array.getElem?_eq_some_iff.1 hh).1,?_⟩;cases o with
  | cells c _ _=>
   simp only at h;split at h
   ·cases h
   ·rename_i hs;simpa using hs
  | _=>cases h
theorem Ajd {α β:Type}(f:α->Option β):∀(l:List α) (r:List β),l.mapM f=some r->r.length=l.length/\∀(i:Nat) (x:α),l[i]? =some x->f x=r[i]?
 | [],r,h=>by
  simp at h;subst h;simp
 | a::l,r,h=>by
  rw[List.mapM_cons]at h;cases hf:f a with
  | none=>rw[hf]at h;cases h
  | some b=>
   rw[hf]at h;cases hm:l.mapM f with
   | none=>rw[hm]at h;cases h
   | some bs=>
    rw[hm]at h;obtain rfl:b::bs=r:=by simpa using h
    obtain⟨h1,h2⟩:=Ajd f l bs hm;refine⟨by simp[h1],fun i x hx=> ?_⟩;cases i with
    | zero=>simp at hx;subst hx;simpa using hf
    | succ i=>simpa using h2 i x (by simpa using hx)
theorem Ap8 {w:World}{base:Nat}{a:Addr}{n:Nat}{vs:List Value}(h:w.cells? base a n=some vs):vs.length=n/\∀i,i<n->w.cell? (a.add i)=vs[i]? :=by
 unfold World.cells? at h;split at h
 ·obtain⟨h1,h2⟩:=Ajd _ _ _ h;rw[List.length_range]at h1;exact⟨h1,fun i hi=>h2 i i (by simp[hi])⟩
 ·cases h
theorem An0 {a:Addr}(h:a.spot=none)(n:Nat):a.add n=⟨a.block,a.off+n,none⟩:=by
 unfold Addr.add;split
 ·rename_i h0;subst h0;cases a;simp_all
 ·rfl
theorem Y0 {α:Type}(p:Nat->α->Prop):∀n:Nat,(∀i,i<n->∃x,p i x)->∃l:List α,l.length=n/\∀(i:Nat) (x:α),l[i]? =some x->p i x
 | 0,_=>⟨[],rfl,by simp⟩
 | n+1,h=>by
  obtain⟨l,h1,h2⟩:=Y0 p n (fun i hi=>h i (by omega));obtain⟨x,hx⟩:=h n (by omega);refine⟨l++[x],by simp[h1],fun i y hy=> ?_⟩;rw[List.getElem?_append]at hy;split at hy
  ·exact h2 i y hy
  ·rename_i hge;have:i=n:=by
    by_cases e:i - l.length=0
    ·omega
    ·obtain⟨m,hm⟩:=Nat.exists_eq_succ_of_ne_zero e;rw[hm]at hy;simp at hy
   subst this;have e0:i - l.length=0:=by omega
   rw[e0]at hy;simp at hy;subst hy;exact hx
theorem Aje {P:Program}:∀(fs:List Field) (o m:Nat),Wj P fs o m=true->o<=m
 | [],o,m,h=>by simp only[Wj,Nat.beq_eq]at h;omega
 | f::fs,o,m,h=>by
  simp only[Wj,Ai,Nat.beq_eq]at h;have:=Aje fs _ m h.2;omega
def Asr (w:World):G:={ S:=fun b=>b<w.heap.size,own:=fun _=>none,hdr:=fun _=>undef }
def Qc (w:World)(qs:List C)(cs:List Value):Prop:=qs.length=cs.length/\∀(k:Nat) (q:C),qs[k]? =some q->∃u,cs[k]? =some u/\Au w (Asr w) q u
theorem Qc.append {w:World}{xs ys:List C}{cs ds:List Value}(h1:Qc w xs cs)(h2:Qc w ys ds):Qc w (xs++ys) (cs++ds):=by
 refine⟨by simp[h1.1,h2.1],fun k x hk=> ?_⟩;rw[List.getElem?_append]at hk ⊢;rw[<-h1.1];split at hk
 ·rename_i hl;rw[if_pos hl];exact h1.2 k x hk
 ·rename_i hl;rw[if_neg hl];exact h2.2 _ x hk
theorem Y1 {P:Program}{w:World}{cs:List Value}{n:Nat}:∀(fs:List Field) (o:Nat) (ty:Ty),Wj P fs o cs.length=true->Mg (fs.map fun f=>On P n f.type)=some ty->
 (∀f:Field,f∈fs->∀ty,On P n f.type=some ty->∃x:ty.den,InR ty x/\Qc w (enc none ty x) ((cs.drop f.offset).take (P.cellsOf f.type)))->∃x:ty.den,InR ty x/\Qc w (enc none ty x) (cs.drop o)
 | [],o,ty,h,ht,_=>by
  simp only[Wj,Nat.beq_eq]at h;subst h;simp only[List.map_nil,Mg,Ah]at ht;subst ht;exact⟨(),trivial,by rw[List.drop_length];exact⟨rfl,fun k q h=>by simp[enc]at h⟩⟩
 | f::fs,o,ty,h,ht,hq=>by
  simp only[Wj,Ai,Nat.beq_eq]at h;obtain⟨h1,h2⟩:=h;subst h1;have hle:=Aje _ _ _ h2;have esplit:cs.drop f.offset=(cs.drop f.offset).take (P.cellsOf f.type)++cs.drop (f.offset+P.cellsOf f.type):=by
   rw[<-List.drop_drop,List.take_append_drop]
  cases fs with
  | nil=>
   simp only[List.map_cons,List.map_nil,Mg]at ht;obtain⟨x,hx1,hx2⟩:=hq f (by simp) ty ht;refine⟨x,hx1,?_⟩;simp only[Wj,Nat.beq_eq]at h2;have:(cs.drop f.offset).take (P.cellsOf f.type)=cs.drop f.offset:=List.take_of_length_le (by rw[List.length_drop];omega)
   rwa [this]at hx2
  | cons f2 fs=>
   simp only[List.map_cons,Mg]at ht;cases h3:On P n f.type with
   | none=>rw[h3]at ht;cases ht
   | some a=>
    cases h4:Mg ((f2::fs).map fun f=>On P n f.type)with
    | none=>
     rw[h3]at ht;simp only[List.map_cons]at h4;rw[h4]at ht;cases ht
    | some b=>
     rw[h3]at ht;have h4' :=h4;simp only[List.map_cons]at h4;rw[h4]at ht;simp only[Ah]at ht;subst ht;obtain⟨x,hx1,hx2⟩:=hq f (by simp) a h3;obtain⟨y,hy1,hy2⟩:=Y1 (f2::fs) _ b h2 h4' (fun g hg=>hq g (by simp[hg]));refine⟨(x,y),⟨hx1,hy1⟩,?_⟩;simp only[enc];rw[esplit];exact hx2.append hy2
theorem Aby {H:Type}{en:TypeId×Value->H}{P:Program}{w:World}{spare:Nat->Bool}{held:Bool}:
 ∀(n fuel:Nat) (t:TypeId) (ty:Ty) (cs:List Value) (y:DataW H×List MemPlace),okT P n t=true->On P n t=some ty->DataW.trod en P w 0 spare held fuel t cs=some y->∃x:ty.den,InR ty x/\Qc w (enc none ty x) cs
 | 0,_,_,_,_,_,ho,_,_=>by cases ho
 | n+1,fuel,t,ty,cs,y,ho,ht,h=>by
  unfold okT at ho;unfold On at ht;cases hu:P.underlying t with
  | none=>rw[hu]at ho;cases ho
  | some d=>
   rw[hu]at ho ht;cases d with
   | int k=>
    cases k with
    | i64=>
     simp only[Ah]at ht;subst ht;obtain⟨z,rfl,_,hw⟩:=DataW.trod_int hu h;have hz: -9223372036854775808<=z/\z<=9223372036854775807:=by
      have:=hw;simp only[Lit.wf,Ai,decide_eq_true_eq]at this;exact this
     exact⟨z,hz,rfl,fun k x hk=>by
      cases k with
      | zero=>simp[enc]at hk;subst hk;exact⟨_,rfl,.int _ z⟩
      | succ k=>simp[enc]at hk⟩
    | u8=>
     simp only[Ah]at ht;subst ht;obtain⟨z,rfl,_,hw⟩:=DataW.trod_int hu h;have hz:0<=z/\z<=255:=by
      have:=hw;simp only[Lit.wf,Ai,decide_eq_true_eq]at this;exact this
     have hz: -9223372036854775808<=z/\z<=9223372036854775807:=by omega
     exact⟨z,hz,rfl,fun k x hk=>by
      cases k with
      | zero=>simp[enc]at hk;subst hk;exact⟨_,rfl,.int _ z⟩
      | succ k=>simp[enc]at hk⟩
    | _=>cases ho
   | bool=>
    simp only[Ah]at ht;subst ht;obtain⟨b,rfl,_⟩:=DataW.trod_bool hu h;exact⟨b,trivial,rfl,fun k x hk=>by
     cases k with
     | zero=>simp[enc]at hk;subst hk;exact⟨_,rfl,.bool b⟩
     | succ k=>simp[enc]at hk⟩
   | slice e=>
    simp only[Ai,Nat.blt_eq]at ho;simp only at ht;cases hte:On P n e with
    | none=>rw[hte]at ht;cases ht
    | some a=>
     rw[hte]at ht;simp only[Ah]at ht;subst ht;rcases DataW.trod_slice hu h with⟨rfl,_⟩ | ⟨ad,len,cap,elems,rest,m,_,rfl,_,_,hc,hm,hlen,hel,_⟩
     ·exact⟨([]:List a.den),⟨by simp,fun y hy=>by simp at hy⟩,rfl,fun k x hk=>by
       cases k with
       | zero=>simp[enc]at hk;subst hk;exact⟨_,rfl,.ro0 _ _ _⟩
       | succ k=>simp[enc]at hk⟩
     ·have hone:∀i,i<len->∃x:a.den,InR a x/\a.n=P.cellsOf e/\∃vs:List Value,vs.length=P.cellsOf e/\(∀k,k<P.cellsOf e->w.cell? ((ad.add (i*P.cellsOf e)).add k)=vs[k]?)/\Qc w (enc none a x) vs:=by
       intro i hi;have:=hel i hi;cases hcs:w.cells? 0 (ad.add (i*P.cellsOf e)) (P.cellsOf e)with
       | none=>rw[hcs]at this;simp at this;omega
       | some vs=>
        rw[hcs]at this;simp only[Aa]at this;have hlt:i<elems.length:=by omega
        rw[List.getElem?_eq_getElem hlt]at this;obtain⟨c,hc1,hc2⟩:=Aby n m e a vs _ ho.2 hte this;obtain⟨hv1,hv2⟩:=Ap8 hcs;exact⟨c,hc1,by rw[<-hv1,<-hc2.1,A2],vs,hv1,hv2,hc2⟩
      obtain⟨els,hl,hp⟩:=Y0 _ len hone;by_cases h0:len=0
      ·subst h0;exact⟨([]:List a.den),⟨by simp,fun y hy=>by simp at hy⟩,rfl,fun k x hk=>by
        cases k with
        | zero=>simp[enc]at hk;subst hk;exact⟨_,rfl,.ro0 _ _ _⟩
        | succ k=>simp[enc]at hk⟩
      ·obtain⟨c0,_,_,vs0,hv0,hw0,_⟩:=hone 0 (by omega);have hb:=Avn (w:=w) (a:=(ad.add (0*P.cellsOf e)).add 0) (v:=vs0[0]'(by omega)) (by rw[hw0 0 ho.1,List.getElem?_eq_getElem (by omega)]);have hadd0:(ad.add (0*P.cellsOf e)).add 0=ad:=by simp[Addr.add]
       rw[hadd0]at hb;have hsp:=hb.2;have hadd:∀i k,(ad.add (i*P.cellsOf e)).add k=⟨ad.block,ad.off+(i*P.cellsOf e+k),none⟩:=fun i k=>by
        rw[An0 hsp,An0 rfl];simp[Nat.add_assoc]
       have ha:ad=⟨ad.block,ad.off,none⟩:=by cases ad;simp_all
       refine⟨els,⟨by show els.length<=maxLen;omega,fun c hc=> ?_⟩,rfl,fun k x hk=> ?_⟩
       ·obtain⟨i,hi⟩:=List.getElem?_of_mem hc;exact(hp i c hi).1
       ·cases k with
        | succ k=>simp[enc]at hk
        | zero=>
         simp only[enc,List.getElem?_cons_zero,Ah]at hk;subst hk;refine⟨_,rfl,?_⟩;rw[ha];have get:∀(i:Nat) (c:List C),(List.map (enc none a) els)[i]? =some c->∃y,els[i]? =some y/\c=enc none a y:=fun i c hi=>by
          rw[List.getElem?_map,Option.map_eq_some_iff]at hi;obtain⟨y,hy,rfl⟩:=hi;exact⟨y,hy,rfl⟩
         refine .ro none _ ad.block ad.off len cap (P.cellsOf e) (fun i k=>(w.cell? ⟨ad.block,ad.off+(i*P.cellsOf e+k),none⟩).getD undef) (by rw[Ae];exact hl.symm) hc hm hb.1 ho.1 (fun i c hi=> ?_) (fun i c k x hi hk=> ?_) (fun i c k x hi hk=> ?_)
         ·obtain⟨y,hy,rfl⟩:=get i c hi;rw[A2];exact(hp i y hy).2.1
         ·obtain⟨y,hy,rfl⟩:=get i c hi;obtain⟨_,h1,vs,h2,h3,h4⟩:=hp i y hy;obtain⟨u,hu1,hu2⟩:=h4.2 k x hk;have hk' :k<P.cellsOf e:=by rw[<-h1,<-A2 none a y];exact(List.getElem?_eq_some_iff.1 hk).1
          have:=h3 k hk';rw[hadd,hu1]at this;rw[this];rfl
         ·obtain⟨y,hy,rfl⟩:=get i c hi;obtain⟨_,h1,vs,h2,h3,h4⟩:=hp i y hy;obtain⟨u,hu1,hu2⟩:=h4.2 k x hk;have hk' :k<P.cellsOf e:=by rw[<-h1,<-A2 none a y];exact(List.getElem?_eq_some_iff.1 hk).1
          have:=h3 k hk';rw[hadd,hu1]at this;rw[this];exact hu2
   | struct fs=>
    simp only[Ai]at ho;obtain⟨ys,m,_,_,hlen,hys,hf⟩:=DataW.trod_struct hu h;have hfld:∀(i:Nat) (f:Field),fs[i]? =some f->∀ty,On P n f.type=some ty->∃x:ty.den,InR ty x/\Qc w (enc none ty x) ((cs.drop f.offset).take (P.cellsOf f.type)):=by
     intro i f hi ty hty;have:=hf i f hi;have hlt:i<ys.length:=by rw[hys];exact(Array.getElem?_eq_some_iff.1 hi).1
     rw[List.getElem?_eq_getElem hlt]at this;exact Aby n m f.type ty _ _ (List.all_eq_true.1 ho.2 f (by rw[<-Array.getElem?_toList]at hi;exact List.mem_of_getElem? hi)) hty this
    have:=Y1 (P:=P) (w:=w) (cs:=cs) (n:=n) fs.toList 0 ty (by rw[hlen];exact ho.1) ht (fun f hf' =>by
     obtain⟨i,hi⟩:=List.getElem?_of_mem hf';exact hfld i f (by rwa [Array.getElem?_toList]at hi))
    rwa [List.drop_zero]at this
   | _=>cases ho
end Go.Pu
/-
  Own work. From the contract of a law's function to the row.
-/
namespace Go.Pu
open Go Go.ChangeShapes Go.WideShapes Go.ChangeAt Go.RowKit
set_option linter.unusedVariables false
def U1 (w:World)(agg:Bool)(ty:Ty)(x:ty.den)(v:Value):Prop:=if agg then C9 w (Asr w) (enc none ty x) v else ∃q,enc none ty x=[q]/\Au w (Asr w) q v
theorem Ass {H:Type}{en:TypeId×Value->H}{P:Program}{w:World}{spare:Nat->Bool}{held:Bool}{base:Nat}{t:TypeId}{ty:Ty}{v:Value}{d:DataW H}{ps:List MemPlace}(ho:okT P 20 t=true)(ht:On P 20 t=some ty)
 (hv:Value.okWide P w .any base t v) (h:DataW.Trod en P w 0 spare held t v d ps):∃x:ty.den,InR ty x/\U1 w (Po P t) ty x v:=by
 obtain⟨fuel,hf⟩:=h;obtain⟨x,h1,h2,h3⟩:=Aby 20 fuel t ty _ _ ho ht hf;refine⟨x,h1,?_⟩;have one:v.cells= #[v]->Po P t=false->U1 w (Po P t) ty x v:=fun hc ha=>by
  unfold U1;rw[ha];simp only[Bool.false_eq_true,if_false];rw[hc]at h2 h3
  match hq:enc none ty x,h2,h3 with
  | [q],_,h3=>
   obtain⟨u,hu,hr⟩:=h3 0 q rfl;simp only[List.getElem?_cons_zero,Ah]at hu;subst hu;exact⟨q,rfl,hr⟩
  | [],h2,_=>simp at h2
  | _::_::_,h2,_=>simp at h2
 unfold okT at ho;cases hu:P.underlying t with
 | none=>rw[hu]at ho;cases ho
 | some dd=>
  rw[hu]at ho;cases dd with
  | struct fs=>
   obtain⟨cs,rfl,hsz⟩:=okWide_struct hu hv;have ha:Po P t=true:=by simp[Po,T8,hu]
   unfold U1;rw[ha];refine⟨cs,rfl,by simpa[Value.cells]using h2.symm,fun k q hk=> ?_⟩;obtain⟨u,hu1,hu2⟩:=h3 k q hk;exact⟨u,by simpa[Value.cells]using hu1,hu2⟩
  | int k=>
   obtain⟨z,rfl⟩:=okWide_int hu hv;exact one rfl (by simp[Po,T8,hu])
  | bool=>
   obtain⟨z,rfl⟩:=okWide_bool hu hv;exact one rfl (by simp[Po,T8,hu])
  | slice e=>
   obtain⟨a,l,c,rfl⟩:=okWide_slice hu hv;exact one rfl (by simp[Po,T8,hu])
  | _=>cases ho
def E7 (P:Program):List TypeId->List Par->Bool
 | [],[]=>true
 | t::ts,.val agg ty::ps=>(agg==Po P t) && decide (On P 20 t=some ty) && E7 P ts ps
 | _,_=>false
theorem Ap9 (t:Ty)(ts:List Ty)(x:t.den)(y:(I5 ts).den):∃z:(I5 (t::ts)).den,(InR t x->InR (I5 ts) y->InR (I5 (t::ts)) z)/\V.proj ⟨I5 (t::ts),z⟩ (Be (ts.length+1) 0)=⟨t,x⟩/\
 ∀i,i<ts.length->V.proj ⟨I5 (t::ts),z⟩ (Be (ts.length+1) (i+1))=V.proj ⟨I5 ts,y⟩ (Be ts.length i):=by
 cases ts with
 | nil=>exact⟨x,fun h _=>h,rfl,fun i h=>by simp at h⟩
 | cons t1 ts=>exact⟨(x,y),fun h1 h2=>⟨h1,h2⟩,rfl,fun i _=>rfl⟩
theorem Ajf {H:Type}{en:TypeId×Value->H}{P:Program}{w:World}{spare:Nat->Bool}{held:Bool}{base:Nat}:∀(ts:List TypeId) (pp:List Par) (vs:List Value) (ds:List (DataW H)) (ps:List MemPlace),ts.all (okT P 20)=true->E7 P ts pp=true->
 (∀(j:Nat) t v,ts[j]? =some t->vs[j]? =some v->Value.okWide P w .any base t v)->DataW.TrodAll en P w 0 spare held ts vs ds ps->
 ds.length=ts.length/\vs.length=pp.length/\∃x:(I5 (pp.map Par.ty)).den,InR (I5 (pp.map Par.ty)) x/\∀(i:Nat) (agg:Bool) (ty:Ty),pp[i]? =some (.val agg ty)->∃v,vs[i]? =some v/\∃y:ty.den,V.proj ⟨I5 (pp.map Par.ty),x⟩ (Be pp.length i)=⟨ty,y⟩/\U1 w agg ty y v
 | [],[],[],[],ps,_,_,_,_=>⟨rfl,rfl,(),trivial,fun i agg ty h=>by simp at h⟩
 | t::ts,.val agg ty::pp,v::vs,d::ds,ps,ho,hs,hv,h=>by
  obtain⟨p,q,h1,h2,_⟩:=h;simp only[List.all_cons,Ai]at ho;simp only[E7,Ai,beq_iff_eq,decide_eq_true_eq]at hs;obtain⟨⟨rfl,hty⟩,hs⟩:=hs;obtain⟨x,hx1,hx2⟩:=Ass ho.1 hty (hv 0 t v rfl rfl) h1;obtain⟨hl,hl2,y,hy1,hy2⟩:=Ajf ts pp vs ds q ho.2 hs (fun j t v h3 h4=>hv (j+1) t v (by simpa using h3) (by simpa using h4)) h2;obtain⟨z,z1,z2,z3⟩:=Ap9 ty (pp.map Par.ty) x y;rw[Ae]at z2 z3;refine⟨by simp[hl],by simp[hl2],z,z1 hx1 hy1,fun i agg' ty' hi=> ?_⟩;cases i with
  | zero=>
   simp only[List.getElem?_cons_zero,Ah,Par.val.injEq]at hi;obtain⟨rfl,rfl⟩:=hi;exact⟨v,rfl,x,z2,hx2⟩
  | succ i=>
   have hi' :pp[i]? =some (.val agg' ty'):=by simpa using hi
   obtain⟨v',q1,y',q2,q3⟩:=hy2 i agg' ty' hi';exact⟨v',by simpa using q1,y',by rw[<-q2];exact z3 i (List.getElem?_eq_some_iff.1 hi').1,q3⟩
 | [],[],[],_::_,_,_,_,_,h=>h.elim
 | [],[],_::_,_,_,_,_,_,h=>h.elim
 | [],_::_,_,_,_,_,hs,_,_=>by simp[E7]at hs
 | _::_,[],_,_,_,_,hs,_,_=>by simp[E7]at hs
 | _::_,.val _ _::_,[],_,_,_,_,_,h=>h.elim
 | _::_,.val _ _::_,_::_,[],_,_,_,_,h=>h.elim
 | _::_,.ptr _::_,_,_,_,_,hs,_,_=>by simp[E7]at hs
 | _::_,.own _ _ _::_,_,_,_,_,hs,_,_=>by simp[E7]at hs
 | _::_,.iob _ _::_,_,_,_,_,hs,_,_=>by simp[E7]at hs
 | _::_,.tok _ _::_,_,_,_,_,hs,_,_=>by simp[E7]at hs
 | _::_,.fn _ _::_,_,_,_,_,hs,_,_=>by simp[E7]at hs
theorem U2 {P:Program}:∀(ts:List TypeId) (pp:List Par),E7 P ts pp=true->∀(i:Nat) (p:Par),pp[i]? =some p->∃agg ty,p= .val agg ty
 | [],[],_,i,p,h=>by simp at h
 | t::ts,.val agg ty::pp,hs,i,p,h=>by
  simp only[E7,Ai]at hs;cases i with
  | zero=>simp only[List.getElem?_cons_zero,Ah]at h;exact⟨agg,ty,h.symm⟩
  | succ i=>exact U2 ts pp hs.2 i p (by simpa using h)
 | [],_::_,hs,_,_,_=>by simp[E7]at hs
 | _::_,[],hs,_,_,_=>by simp[E7]at hs
 | _::_,.ptr _::_,hs,_,_,_=>by simp[E7]at hs
 | _::_,.own _ _ _::_,hs,_,_,_=>by simp[E7]at hs
 | _::_,.iob _ _::_,hs,_,_,_=>by simp[E7]at hs
 | _::_,.tok _ _::_,hs,_,_,_=>by simp[E7]at hs
 | _::_,.fn _ _::_,hs,_,_,_=>by simp[E7]at hs
theorem Avo {P:Program}{s:Sig}{w:World}{args:Array Value}{ts:List TypeId}{x:s.p.den}(hs:E7 P ts s.ps=true)(hl:args.size=s.ps.length)
 (h:∀(i:Nat) (agg:Bool) (ty:Ty),s.ps[i]? =some (.val agg ty)->∃v,args.toList[i]? =some v/\∃y:ty.den,V.proj ⟨s.p,x⟩ (Be s.ps.length i)=⟨ty,y⟩/\U1 w agg ty y v):Pre P s x w (Asr w) args:=by
 refine⟨hl,fun i=> ?_,fun l row hr=> ?_,fun b hb=>hb,fun b l hl=>by cases hl⟩
 ·have hsl:(Fj s).slot i=((s.ps[i]?).map (Vp s.ps.length (0+i) (0+nb s.ps i))).getD .junk:=by
   unfold St.slot Fj;simp only[List.getD];rw[N6]
  rw[hsl];cases hp:s.ps[i]? with
  | none=>trivial
  | some p=>
   obtain⟨agg,ty,rfl⟩:=U2 ts s.ps hs i p hp;obtain⟨v,h1,y,h2,h3⟩:=h i agg ty hp;have hv:args.getD i undef=v:=by
    rw[Array.getD_eq_getD_getElem?,<-Array.getElem?_toList,h1];rfl
   rw[hv];simp only[Option.map_some,Option.getD_some,Nat.zero_add,Vp];have hc:=Fu none 0 [⟨s.p,x⟩] ty (Be s.ps.length i) y h2;unfold U1 at h3;cases agg with
   | true=>
    simp only[if_true]at h3;simp only[Aar,if_true,SV.enc,hc];exact h3
   | false=>
    simp only[Bool.false_eq_true,if_false]at h3;obtain⟨q,hq,hr⟩:=h3;rw[hq]at hc;simp only[Aar,Bool.false_eq_true,if_false];cases hcs:cellsOf none 0 (Be s.ps.length i) ty with
    | nil=>rw[hcs]at hc;simp[Ay]at hc
    | cons c cs=>
     rw[hcs]at hc;simp only[Ay,List.cons.injEq]at hc;simp only[SV.enc,Bp,hc.1];exact hr
 ·obtain⟨j,p⟩:=l;have hr:RK.rows [⟨s.p,x⟩] j ((Fj s).rk j) p=some row:=hr;have:(Fj s).rk j= .dead:=by
   unfold St.rk Fj;simp only[List.getD];cases hj:(J1 s.ps.length 0 0 s.ps)[j]? with
   | none=>rfl
   | some k' =>
    obtain⟨i,p',q,hp,hq,_⟩:=N7 _ _ _ _ _ _ hj;obtain⟨agg,ty,rfl⟩:=U2 ts s.ps hs i p' hp;simp[I6]at hq
  rw[this,Bj]at hr;cases hr
theorem Ae5 {H:Type}{enc:TypeId×Value->H}{P:Program}(hl:laidOutB P=true){W W' :World}(hb:Below W.heap.size W W'):∀(ts:List TypeId) (vs:List Value) (ds:List (DataW H)) (ps:List MemPlace),
 ts.all (fun t=>P.readableRec t && Nat.blt t P.types.size)=true->DataW.TrodAll enc P W 0 (fun _=>true) true ts vs ds ps->(∀x∈ps,x.block<W.heap.size)->∀sp:Nat->Bool,(∀x∈ps,sp x.block=true)->DataW.TrodAll enc P W' 0 sp true ts vs ds ps
 | [],[],[],ps,_,h,_,_,_=>h
 | t::ts,v::vs,d::ds,ps,ho,h,hlt,sp,hsp=>by
  obtain⟨p,q,h1,h2,rfl⟩:=h;simp only[List.all_cons,Ai,Nat.blt_eq]at ho;refine⟨p,q,?_,Ae5 hl hb ts vs ds q ho.2 h2 (fun x hx=>hlt x (by simp[hx])) sp (fun x hx=>hsp x (by simp[hx])),rfl⟩;exact WideElems.Trod_stays hl ho.1.1 ho.1.2 h1 (fun x hx=>hb.same (hlt x (by simp[hx]))) (fun x hx=>hsp x (by simp[hx]))
 | [],_::_,_,_,_,h,_,_,_=>h.elim
 | [],[],_::_,_,_,h,_,_,_=>h.elim
 | _::_,[],_,_,_,h,_,_,_=>h.elim
 | _::_,_::_,[],_,_,h,_,_,_=>h.elim
section
variable {H:Type} {enc:TypeId×Value->H} {P:Program}
theorem Abz {f:Func}{s:ChangeSpec}{apart fresh handsOn again:Bool}{W W' :World}{args:Array Value}{v:Value}{ds gs:List (DataW H)}{before pa pv:List MemPlace}
 (hW:DataW.Whole enc P f.params.toList s.vars apart W args.toList ds gs before)
 (hres:∀(b:Nat) (sp:Nat->Bool) (hd:Bool),DataW.TrodAll enc P W' b sp hd f.resultTypes.toList (v.resultList f.resultTypes.size) (s.fn H (ds++gs)).results [])
 (hargs:∀sp:Nat->Bool,(∀p∈before,sp p.block=true)->DataW.TrodAll enc P W' 0 sp true f.params.toList args.toList (s.fn H (ds++gs)).args pa)
 (hvars:∀sp:Nat->Bool,(∀p∈before,sp p.block=true)->DataW.TrodVars enc P W' sp s.vars (s.fn H (ds++gs)).vars pv)
 (hps:before=pa++pv) (hb:Below W.heap.size W W')
 (hok:∀(j:Nat) (t:TypeId) (r:Value),f.resultTypes[j]? =some t->(v.resultList f.resultTypes.size)[j]? =some r->Value.okWide P W' .any 0 t r):
 s.post enc P f apart fresh handsOn again W args v W' :=by
 have hlt:∀p∈before,p.block<W.heap.size:=fun p hp=>hW.lt p hp
 have hold:∀p∈before,(fun b=>decide (b<W.heap.size)) p.block=true:=fun p hp=>by simpa using hlt p hp
 refine⟨ds,gs,before,[],pa,pv,hW,hres _ _ _,hargs _ hold,hvars _ hold,World.keptBut_mono (fun p hp=>⟨hp,?_⟩) (hb.frame (·∈before)),fun _=> ?_⟩
 ·rw[hps,List.mem_append]at hp;exact Or.inr hp
 ·obtain⟨_,_,_,_,_,hz,hn⟩:=hW;refine⟨hok,_,_,([]++pa)++pv,⟨[]++pa,pv,trodAll_append (hargs _ (fun _ _=>rfl)) (hres _ _ _),hvars _ (fun _ _=>rfl),rfl,?_,?_⟩,?_⟩
  ·intro b off hp;have hin:MemPlace.cell b off∈before:=by rw[hps];simpa using hp
   rw[hb.frozen (hlt _ hin)];exact hz b off hin
  ·intro ha;have:=hn ha;rw[hps]at this;simpa using this
  ·intro p hp _;rw[hps];simpa using hp
end
theorem Ast {H:Type}{enc:TypeId×Value->H}{P:Program}{fn:Func}{s:ChangeSpec}{tb:TypeId}{sg:Sig}{F:sg.p.den->Option sg.r.den}(hl:laidOutB P=true)(hro:fn.params.toList.all (fun t=>P.readableRec t && Nat.blt t P.types.size)=true)(hok:fn.params.toList.all (okT P 20)=true)
 (hvs:E7 P fn.params.toList sg.ps=true) (hslot:(Pp sg).slots=[.c (.v (.r ⟨0,[]⟩))])
 (hres:fn.resultTypes= #[tb]) (htb:P.underlying tb=some .bool) (hvar:s.vars=[]) (hfn:∀ds:List (DataW H),ds.length=fn.params.size->s.fn H (ds++[])={ results:=[.lit (.bool true)],args:=ds })
 (hlaw:∀x,InR sg.p x->∃y,F x=some y/\V.c ⟨sg.r,y⟩= .bool true) (hspec:Ja P sg F)
 (W:World) (base:Nat) (args:Array Value) (ds gs:List (DataW H)) (before:List MemPlace) (hval:∀(j:Nat) t v,fn.params[j]? =some t->args[j]? =some v->Value.okWide P W .any base t v)
 (hW:DataW.Whole enc P fn.params.toList s.vars false W args.toList ds gs before):
 Calls P sg.f args W fun e W' =>∃v,e= .returned v/\s.post enc P fn false true false false W args v W' :=by
 have hW' :=hW;obtain⟨p,q,hA,hV,rfl,hfz,hnd⟩:=hW;rw[hvar]at hV;obtain⟨rfl,rfl⟩:=trodVars_none hV;have hlt:∀x∈p++[],x.block<W.heap.size:=fun p hp=>hW'.lt p hp
 obtain⟨hdl,hvl,x,h1,h2⟩:=Ajf (P:=P) fn.params.toList sg.ps args.toList ds p hok hvs (fun j t v ht hv=>hval j t v (by simpa using ht) (by simpa using hv)) hA;obtain⟨y,hy1,hy2⟩:=hlaw x h1;refine(hspec.run x y W (Asr W) args (Avo hvs (by simpa using hvl) h2) hy1).mono fun e W' hP=> ?_
 obtain⟨v,rfl,hpost⟩:=hP;obtain⟨hchg,g',_,_,hp,_⟩:=hpost;have hL:Below W.heap.size W W' :=(hchg.of (O:=fun _=>False) (B:=W.heap.size) fun k hk _=>⟨hk,fun⟨l,hl⟩=>by cases hl⟩).lat;have hv:v= .bool true:=by
  have hsl:(Pp sg).slot 0= .c (.v (.r ⟨0,[]⟩)):=by unfold St.slot;rw[hslot];rfl
  rw[hsl]at hp;have hp:Au W' g' (V.c ⟨sg.r,y⟩) v:=by simpa[SV.enc,SC.enc,At.get,Ref.get,List.getD,V.proj,Bp]using hp
  rw[hy2]at hp;exact L3 hp
 subst hv;have hf:=hfn ds (by simpa using hdl);refine⟨_,rfl,Abz (pa:=p) (pv:=[]) hW' (fun b sp hd=> ?_) (fun sp hsp=> ?_) (fun sp _=> ?_) rfl hL ?_⟩
 ·rw[hf,hres];exact trodAll_cons_mk (shut_bool htb _) trodAll_mk0
 ·rw[hf];have:=Ae5 hl hL fn.params.toList args.toList ds p hro hA (fun x hx=>hlt x (by simp[hx])) sp (fun x hx=>hsp x (by simp[hx]));simpa using this
 ·rw[hf,hvar];rfl
 ·exact ok_one hres rfl (okWide_bool_mk htb _)
end Go.Pu
/-
  Own work. Contracts gathered.
-/
namespace Go.Pu
open Go Go.RowKit
theorem Nh.nil {P:Program}:Nh P [] []:=fun s h=>by cases h
theorem Nh.cons {P:Program}{s:Sig}{ss:List Sig}{Γ:List FE}{fn:s.p.den->Option s.r.den}(h:Ja P s fn)(hs:Nh P ss Γ)(hk:ss.all (fun s' => !(Nat.beq s.key s'.key))=true):Nh P (s::ss) (⟨s.key,s.p,s.r,fn⟩::Γ):=fun s' hm=>by
 rcases List.mem_cons.1 hm with rfl | hm
 ·exact⟨fn,by simp[Ah3],h⟩
 ·obtain⟨fn',h1,h2⟩:=hs s' hm;refine⟨fn',?_,h2⟩;have:=List.all_eq_true.1 hk s' hm;simp only[Bool.not_eq_true']at this;simp only[Ah3];rw[if_neg (fun e=>by rw[e,Nat.beq_refl]at this;cases this)];exact h1
abbrev i0:Bool:=false
abbrev i1:Bool:=true
abbrev i6:IntKind:= .i64
abbrev tI:Ty:= .int .i64
abbrev tB:Ty:= .bool
abbrev tP (a b:Ty):Ty:= .pr a b
abbrev tS (e:TypeId)(a:Ty):Ty:= .sl e a
abbrev aV (n:Nat):At:= .r ⟨n,[]⟩
abbrev aR (n:Nat)(p:List Bool):At:= .r ⟨n,p⟩
abbrev aI (z:Int):At:= .int .i64 z
abbrev sV (x:At):SC:= .v x
abbrev sW (x:At):SV:= .c (.v x)
abbrev sB (e:Ex)(s:Stm):Stm:= .bind e s
abbrev sI (x:At)(s t:Stm):Stm:= .ite x s t
abbrev sL (t:Ty)(xs:List At)(s:Stm):Stm:= .loop t xs s
abbrev sJ (t:Ty)(s k:Stm):Stm:= .join t s k
abbrev sN (t:Ty)(xs:List At):Stm:= .next t xs
abbrev sU (s:Stm):Stm:= .lift s
abbrev sR (t:Ty)(xs:List At):Stm:= .ret t xs
end Go.Pu
/-
  Own work. Contracts bundled with their functions; the statement of a body is worked out, not printed.
-/
namespace Go.Pu
open Go Go.RowKit
structure SP (P:Program) where
 s:Sig
 fn:s.p.den->Option s.r.den
 ok:Ja P s fn
def SP.e {P:Program}(c:SP P):FE:=⟨c.s.key,c.s.p,c.s.r,c.fn⟩
theorem An1 {P:Program}:∀(l:List (SP P)),Ft (l.map fun c=>c.s.key)=true->Nh P (l.map SP.s) (l.map SP.e)
 | [],_=>Nh.nil
 | c::l,h=>by
  simp only[List.map_cons,Ft,Ai,Bool.not_eq_true']at h;refine Nh.cons c.ok (An1 l h.2) (List.all_eq_true.2 fun s' hs=> ?_);obtain⟨c',hc,rfl⟩:=List.mem_map.1 hs;cases hb:Nat.beq c.s.key c'.s.key with
  | false=>rfl
  | true=>
   have e:=Nat.eq_of_beq_eq_true hb;have:(l.map fun c=>c.s.key).contains c.s.key=true:=by
    rw[List.contains_iff_mem,e];exact List.mem_map.2 ⟨c',hc,rfl⟩
   rw[h.1]at this;cases this
def kOk {P : Program} (cs : List (SP P)) (s : Sig) : Bool := Ft (cs.map fun c => c.s.key) && !(match P.funcs[s.f]? with | some F => F.name == "runtime.NumGoroutine" | none => true)
def cOk {P:Program}(cs:List (SP P))(an:Ann)(s:Sig):Bool:=kOk cs s && (match Aa1 P (cs.map SP.s) an s with | .ok _=>true | .error _=>false)
def Aye {P:Program}(cs:List (SP P))(an:Ann)(s:Sig):Stm:=match Aa1 P (cs.map SP.s) an s with | .ok x=>x | .error _=> .next .unit []
noncomputable def Azk {P:Program}(cs:List (SP P))(an:Ann)(s:Sig):s.p.den->Option s.r.den:=fun x=>(Aye cs an s).den (cs.map SP.e) [] s.r [⟨s.p,x⟩]
theorem Mw {P:Program}{s:Sig}{fn:s.p.den->Option s.r.den}(cs:List (SP P))(an:Ann)(stm:Stm)(hm:P.follows .mixedOrders=true)(hk:kOk cs s=true)(h:Aa1 P (cs.map SP.s) an s= .ok stm)(hf:(fun x=>stm.den (cs.map SP.e) [] s.r [⟨s.p,x⟩])=fn):Ja P s fn:=by
 unfold kOk at hk;rw[Ai,Bool.not_eq_true']at hk;exact A4y hm (An1 cs hk.1) h hk.2 (fun x=>by rw[<-hf])
theorem Ax {P:Program}{s:Sig}{fn:s.p.den->Option s.r.den}(cs:List (SP P))(an:Ann)(hm:P.follows .mixedOrders=true)(h:cOk cs an s=true)(hf:Azk cs an s=fn):Ja P s fn:=by
 unfold cOk at h;rw[Ai]at h;cases hc:Aa1 P (cs.map SP.s) an s with
 | error e=>rw[hc]at h;cases h.2
 | ok stm=>
  have e:Aye cs an s=stm:=by unfold Aye;rw[hc]
  exact Mw cs an stm hm h.1 hc (by rw[<-hf];unfold Azk;rw[e])
end Go.Pu
