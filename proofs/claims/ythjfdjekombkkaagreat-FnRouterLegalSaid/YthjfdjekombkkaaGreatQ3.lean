/-
  Own work: parts Rtc, LawRouteAll, LawRoutesOk, LawOverused, Rdj, LawFnRouterLegal, plain lemmas.
-/
import Derived.Test.YthjfdjekombkkaaGreatQ2
import Derived.Test.YthjfdjekombkkaaGreatQ1
import Derived.Test.YthjfdjekombkkaaGreatD
import Derived.Test.YthjfdjekombkkaaGreatQ0
/-
  Own work. Routing all connections, plainly: the rounds.
-/
namespace Go.Pf
open Go Go.Pu
set_option linter.unusedVariables false
abbrev XS:=Bool×(Int×List Int)
noncomputable def xbI (u:List Int)(i:Int)(rs:List Rt):XS->Option (XS⊕RO):=(fun(v22:(Bool×(Int×List Int)))=>
 let v21:Int:=((u).length:Int)
 let v23:Bool:=decide (v22.2.1<v21)
 bif v23 then(
  (gin (u).length v22.2.1).bind fun _=>
  (gget 0 u v22.2.1).bind fun v25=>
  let v26:Bool:=decide (1<v25)
  bif v26 then(
   (gin (v22.2.2).length v22.2.1).bind fun _=>
   (gget 0 v22.2.2 v22.2.1).bind fun v28=>
   let v29:Int:=wrap .i64 (v25 - 1)
   let v30:Int:=wrap .i64 (4*v29)
   let v31:Int:=wrap .i64 (v28+v30)
   (gin (v22.2.2).length v22.2.1).bind fun _=>
   (gget 0 v22.2.2 v22.2.1).bind fun v33=>
   let v34:Int:=v31
   let v35:List Int:=gset v22.2.2 v22.2.1 v34
   let v36:Int:=wrap .i64 (v22.2.1+1)
   some (.inl (true,(v36,v35))))else
  let v27:Int:=wrap .i64 (v22.2.1+1)
  some (.inl (v22.1,(v27,v22.2.2))))else
 Option.map Sum.inr (
  let v24:Bool:= !v22.1
  bif v24 then(
   Option.map Sum.inr (
    some (rs,true)))else
  let v25:Int:=wrap .i64 (i+1)
  some (.inl (v25,(v22.2.2,rs)))))
noncomputable def xbS (u:List Int)(i:Int)(rs:List Rt):XS->Option (XS⊕SO):=(fun(v21:(Bool×(Int×List Int)))=>
 let v22:Int:=((u).length:Int)
 let v23:Bool:=decide (v21.2.1<v22)
 bif v23 then(
  (gin (u).length v21.2.1).bind fun _=>
  (gget 0 u v21.2.1).bind fun v25=>
  let v26:Bool:=decide (1<v25)
  bif v26 then(
   (gin (v21.2.2).length v21.2.1).bind fun _=>
   (gget 0 v21.2.2 v21.2.1).bind fun v28=>
   (gin (u).length v21.2.1).bind fun _=>
   (gget 0 u v21.2.1).bind fun v30=>
   let v31:Int:=wrap .i64 (v30 - 1)
   let v32:Int:=wrap .i64 (4*v31)
   let v33:Int:=wrap .i64 (v28+v32)
   (gin (v21.2.2).length v21.2.1).bind fun _=>
   (gget 0 v21.2.2 v21.2.1).bind fun v35=>
   let v36:Int:=v33
   let v37:List Int:=gset v21.2.2 v21.2.1 v36
   let v38:Int:=wrap .i64 (v21.2.1+1)
   some (.inl (true,(v38,v37))))else
  let v27:Int:=wrap .i64 (v21.2.1+1)
  some (.inl (v21.1,(v27,v21.2.2))))else
 Option.map Sum.inr (
  let v24:Bool:= !v21.1
  bif v24 then(
   Option.map Sum.inr (
    some (rs,true)))else
  let v25:Int:=wrap .i64 (i+1)
  some (.inl (v25,(rs,v21.2.2)))))
def xrT (u h:List Int):Nat->Bool×List Int
 | 0=>(false,h)
 | n+1=>if 1<u.getD n 0 then(true,(xrT u h n).2.set n (wrap .i64 ((xrT u h n).2.getD n 0+wrap .i64 (4*wrap .i64 (u.getD n 0 - 1)))))else xrT u h n
theorem xrT_succ (u h:List Int)(n:Nat):xrT u h (n+1)=if 1<u.getD n 0 then(true,(xrT u h n).2.set n (wrap .i64 ((xrT u h n).2.getD n 0+wrap .i64 (4*wrap .i64 (u.getD n 0 - 1)))))else xrT u h n:=rfl
theorem xrT_len (u h:List Int):∀n,(xrT u h n).2.length=h.length
 | 0=>rfl
 | n+1=>by
  have:=xrT_len u h n;rw[xrT_succ];split
  ·rw[List.length_set];exact this
  ·exact this
theorem xr_ok {N:Nat}{u h:List Int}{B:Int}(hu:∀x,x<N->0<=nsAt u x/\nsAt u x<=100)(hh:HsOk N B h)(hB:0<=B/\B<=100000):∀n,n<=N->∀x,x<N->(0<=nsAt (xrT u h n).2 x/\nsAt (xrT u h n).2 x<=B+400)/\(n<=x->nsAt (xrT u h n).2 x=nsAt h x):=by
 intro n
 induction n with
 | zero=>intro _ x hx;have:=hh.2 x hx;exact⟨⟨this.1,by show nsAt h x<=_;omega⟩,fun _=>rfl⟩
 | succ n ih=>
  intro hn x hx;have ih:=ih (by omega);have hl:(xrT u h n).2.length=N:=(xrT_len u h n).trans hh.1;rw[xrT_succ];have hu0:=hu n (by omega)
  change 0<=u.getD n 0/\u.getD n 0<=100 at hu0
  by_cases c:1<u.getD n 0
  ·rw[if_pos c];have e:(xrT u h n).2.getD n 0=nsAt h n:=(ih n (by omega)).2 (Nat.le_refl _);have h0:=hh.2 n (by omega);rw[e,wrap_ok (z:=u.getD n 0 - 1) (by omega),wrap_ok (z:=4*(u.getD n 0 - 1)) (by omega),wrap_ok (by omega)];simp only;rw[nsAt_set _ _ (by omega)];by_cases q:x=n
   ·rw[if_pos q];exact⟨⟨by omega,by omega⟩,fun _=>by omega⟩
   ·rw[if_neg q];obtain⟨j1,j2⟩:=ih x hx;exact⟨j1,fun _=>j2 (by omega)⟩
  ·rw[if_neg c];obtain⟨j1,j2⟩:=ih x hx;exact⟨j1,fun _=>j2 (by omega)⟩
theorem xb_runI (u h:List Int)(i:Int)(rs:List Rt)(hl:h.length=u.length)(hb:u.length<=1048576):loop (xbI u i rs) (false,(0,h))=some (if(xrT u h u.length).1 then .inl (wrap .i64 (i+1),((xrT u h u.length).2,rs))else .inr (rs,true)):=by
 refine loop_upto u.length (fun k=>((xrT u h k).1,((k:Int),(xrT u h k).2))) (fun k hk=> ?_) ?_
 ·have hln:=xrT_len u h k;have hk2:k<(xrT u h k).2.length:=by omega
  unfold xbI
  try dsimp only
  rw[dt (by omega),cond_true,gin_nat hk,gget_some (xs:=u) (by omega) (by omega)];simp only[Option.bind_some,Int.toNat_natCast];rw[xrT_succ];by_cases c:1<u.getD k 0
  ·rw[dt c,cond_true,if_pos c,gin_nat hk2,gget_some (xs:=(xrT u h k).2) (by omega) (by omega)];simp only[Option.bind_some,Int.toNat_natCast];rw[gset_nat,wrap_ok (z:=(k:Int)+1) (by omega)];rfl
  ·rw[df c,cond_false,if_neg c,wrap_ok (z:=(k:Int)+1) (by omega)];rfl
 ·unfold xbI
  try dsimp only
  rw[df (by omega),cond_false];cases (xrT u h u.length).1<;>rfl
theorem xb_runS (u h:List Int)(i:Int)(rs:List Rt)(hl:h.length=u.length)(hb:u.length<=1048576):loop (xbS u i rs) (false,(0,h))=some (if(xrT u h u.length).1 then .inl (wrap .i64 (i+1),(rs,(xrT u h u.length).2))else .inr (rs,true)):=by
 refine loop_upto u.length (fun k=>((xrT u h k).1,((k:Int),(xrT u h k).2))) (fun k hk=> ?_) ?_
 ·have hln:=xrT_len u h k;have hk2:k<(xrT u h k).2.length:=by omega
  unfold xbS
  try dsimp only
  rw[dt (by omega),cond_true,gin_nat hk,gget_some (xs:=u) (by omega) (by omega)];simp only[Option.bind_some,Int.toNat_natCast];rw[xrT_succ];by_cases c:1<u.getD k 0
  ·rw[dt c,cond_true,if_pos c,gin_nat hk2,gget_some (xs:=(xrT u h k).2) (by omega) (by omega)];simp only[Option.bind_some,Int.toNat_natCast];rw[gset_nat,wrap_ok (z:=(k:Int)+1) (by omega)];rfl
  ·rw[df c,cond_false,if_neg c,wrap_ok (z:=(k:Int)+1) (by omega)];rfl
 ·unfold xbS
  try dsimp only
  rw[df (by omega),cond_false];cases (xrT u h u.length).1<;>rfl
noncomputable def obI (n:Int)(srcs:List Int)(snks:List (List Int))(GR:List (List Int)×List (List Int)):(Int×(List Int×List Rt))->Option ((Int×(List Int×List Rt))⊕(List Rt×Bool)):=fun v14=>
 bif decide (v14.1<=12)then loop (rkI n srcs snks v14.2.1 v14.1 GR (fun rs=>(impl_usage ((v14.2.1.length:Int),rs)).bind fun u=>loop (xbI u v14.1 rs) (false,(0,v14.2.1)))) (0,v14.2.2)
 else Option.map Sum.inr (some (([]:List Rt),false))
noncomputable def obS (d:Dev)(ps:List Int)(cs:List Conn)(G:List (List Int)):(Int×(List Rt×List Int))->Option ((Int×(List Rt×List Int))⊕(List Rt×Bool)):=fun v14=>
 bif decide (v14.1<=12)then loop (rkS d ps cs v14.2.2 v14.1 G (fun rs=>(spec_l34Load ((G.length:Int),(rs,(-1)))).bind fun u=>loop (xbS u v14.1 rs) (false,(0,v14.2.2)))) (0,v14.2.1)
 else Option.map Sum.inr (some (([]:List Rt),false))
def RoQ (d:Dev)(ps:List Int)(cs:List Conn)(o:List Rt×Bool):Prop:=
 (o.2=false->o.1=[])/\(o.2=true->o.1.length=cs.length/\(∀j,j<cs.length->LG d ps cs j (o.1.getD j ([],[])))/\∀x,x<(nodesN d).toNat->nsAt (ldT (nodesN d).toNat o.1 (-1) o.1.length) x<=1)
theorem roQ_no (d:Dev)(ps:List Int)(cs:List Conn):RoQ d ps cs ([],false):=⟨fun _=>rfl,fun e=>by cases e⟩
theorem xrT_no {u h:List Int}:∀{n},(xrT u h n).1=false->∀x,x<n->nsAt u x<=1
 | 0,_,x,hx=>by omega
 | n+1,e,x,hx=>by
  rw[xrT_succ]at e;split at e
  ·cases e
  ·rename_i c;by_cases q:x=n
   ·subst q;unfold nsAt;omega
   ·exact xrT_no e x (by omega)
theorem ro_runC {d:Dev}{ps:List Int}{cs:List Conn}(hd:DOk d)(hp:PsR ps)(hpl:ps.length<=1048576)(hcs:cs.length<=100)(hcl:∀c∈cs,c.2.2.length<=1048576){R:List (List Int)}(hR:RevOk (nodesN d).toNat (dG d) R)
 (hsrc:∀c∈cs,0<=srcP d ps c.2.1):∀(m i:Nat) (hist:List Int) (rs:List Rt),i+m=13->1<=i->HsOk (nodesN d).toNat (400*(i:Int)) hist->RtInv cs.length rs->
  ∃o,loop (obI (cs.length:Int) (srcL d ps cs) (snkL d ps cs) (dG d,R)) ((i:Int),(hist,rs))=some o/\loop (obS d ps cs (dG d)) ((i:Int),(rs,hist))=some o/\o.1.length<=100/\(∀r∈o.1,r.1.length<=828/\r.2.length<=828)/\RoQ d ps cs o
 | 0,i,hist,rs,hm,h1,hh,hrs=>by
  refine⟨([],false),loop_end ?_,loop_end ?_,by simp,by simp,roQ_no d ps cs⟩
  ·unfold obI
   try dsimp only
   rw[df (by omega),cond_false]
  ·unfold obS
   try dsimp only
   rw[df (by omega),cond_false]
 | m+1,i,hist,rs,hm,h1,hh,hrs=>by
  have hn:=nodesN_le hd;have hG:=dG_ok hd;have hGl:((dG d).length:Int)=((nodesN d).toNat:Int):=by rw[hG.1]
  have hh1:HsOk (nodesN d).toNat 1000000 hist:=⟨hh.1,fun x hx=>by have:=hh.2 x hx;omega⟩;have key:=rk_runC hd hp hpl hcs hcl hR hsrc hh1 (i:=(i:Int)) (by omega) (fun rs=>(impl_usage ((hist.length:Int),rs)).bind fun u=>loop (xbI u (i:Int) rs) (false,(0,hist))) (fun rs=>(spec_l34Load (((dG d).length:Int),(rs,(-1)))).bind fun u=>loop (xbS u (i:Int) rs) (false,(0,hist))) cs.length 0 rs (by omega) hrs;have fI:∀X,loop (rkI (cs.length:Int) (srcL d ps cs) (snkL d ps cs) hist (i:Int) (dG d,R) (fun rs=>(impl_usage ((hist.length:Int),rs)).bind fun u=>loop (xbI u (i:Int) rs) (false,(0,hist)))) (((0:Nat):Int),rs)=X->obI (cs.length:Int) (srcL d ps cs) (snkL d ps cs) (dG d,R) ((i:Int),(hist,rs))=X:=fun X h=>by
   unfold obI
   try dsimp only
   rw[dt (by omega),cond_true];exact h
  have fS:∀X,loop (rkS d ps cs hist (i:Int) (dG d) (fun rs=>(spec_l34Load (((dG d).length:Int),(rs,(-1)))).bind fun u=>loop (xbS u (i:Int) rs) (false,(0,hist)))) (((0:Nat):Int),rs)=X->obS d ps cs (dG d) ((i:Int),(rs,hist))=X:=fun X h=>by
   unfold obS
   try dsimp only
   rw[dt (by omega),cond_true];exact h
  rcases key with⟨k1,k2⟩ | ⟨rs',hrs',hlg,k1,k2⟩
  ·exact⟨([],false),loop_inr' (fI _ k1),loop_inr' (fS _ k2),by simp,by simp,roQ_no d ps cs⟩
  ·have hok:=hrs'.ok (by omega);have hld:=ldT_bd (nodesN d).toNat rs' (-1) rs'.length (by rw[hrs'.1];omega);have hll:=ldT_len (nodesN d).toNat rs' (-1) rs'.length;have hrl:rs'.length<=100:=by rw[hrs'.1];exact hcs
   have eI:=usage_impl (nodesN d).toNat rs' (by omega) hok;have eS:=load_spec (nodesN d).toNat rs' (-1) (by omega) hok;generalize hu:ldT (nodesN d).toNat rs' (-1) rs'.length=u at*;have hhl:hist.length=u.length:=by rw[hh.1,hll]
   have k1' :=fI _ k1;have k2' :=fS _ k2
   try dsimp only at k1' k2'
   rw[hh.1,eI]at k1';rw[hGl,eS]at k2';simp only[Option.bind_some]at k1' k2';rw[xb_runI u hist _ _ hhl (by omega)]at k1';rw[xb_runS u hist _ _ hhl (by omega)]at k2';cases hx:(xrT u hist u.length).1 with
   | false=>
    rw[hx]at k1' k2';refine⟨(rs',true),loop_inr' k1',loop_inr' k2',hrl,fun r hr=>hrs'.2 r hr,⟨fun e=>(by cases e),fun _=>⟨hrs'.1,hlg (fun j hj=>by omega),fun x hxn=> ?_⟩⟩⟩;simp only;rw[hu];exact xrT_no hx x (by omega)
   | true=>
    rw[hx]at k1' k2';simp only[if_true]at k1' k2';rw[wrap_ok (z:=(i:Int)+1) (by omega)]at k1' k2';have hx2:=xr_ok (N:=(nodesN d).toNat) (u:=u) (h:=hist) (B:=400*(i:Int)) (fun x hx=>by have:=hld x hx;omega) hh (by omega) u.length (by omega);have hh2:HsOk (nodesN d).toNat (400*((i+1:Nat):Int)) (xrT u hist u.length).2:=⟨by rw[xrT_len];exact hh.1,fun x hx=>by have:=(hx2 x hx).1;omega⟩;obtain⟨o,o1,o2,o3⟩:=ro_runC hd hp hpl hcs hcl hR hsrc m (i+1) _ rs' (by omega) (by omega) hh2 hrs';exact⟨o,(loop_inl' k1').trans o1,(loop_inl' k2').trans o2,o3⟩
end Go.Pf
/-
  Own work. The law of routing all connections, plainly: it says true.
-/
namespace Go.Pf
open Go Go.Pu
set_option linter.unusedVariables false
theorem first_bad (p:Nat->Bool):∀n,(∀k,k<n->p k=true)\/∃j,j<n/\p j=false/\∀k,k<j->p k=true:=by
 intro n
 induction n with
 | zero=>left;intro k hk;omega
 | succ n ih=>
  rcases ih with ih | ⟨j,h1,h2,h3⟩
  ·cases h:p n with
   | true=>
    left
    intro k hk;by_cases e:k=n
    ·subst e;exact h
    ·exact ih k (by omega)
   | false=>right;exact⟨n,by omega,h,ih⟩
  ·right;exact⟨j,by omega,h2,h3⟩
def rgood (d:Dev)(ps:List Int)(c:Conn):Bool:=decide (0<=srcP d ps c.2.1) && !(snksP d ps c.2.2).isEmpty
theorem srcL_take (d:Dev)(ps:List Int){cs:List Conn}{k:Nat}(h:k<cs.length):srcL d ps (cs.take (k+1))=srcL d ps (cs.take k)++[srcP d ps (cnAt cs k).2.1]:=by
 have e:cnAt cs k=cs[k]:=by unfold cnAt;rw[List.getD,List.getElem?_eq_getElem h];rfl
 unfold srcL;rw[take_succ' cs k h,List.map_append,e];rfl
theorem snkL_take (d:Dev)(ps:List Int){cs:List Conn}{k:Nat}(h:k<cs.length):snkL d ps (cs.take (k+1))=snkL d ps (cs.take k)++[snksP d ps (cnAt cs k).2.2]:=by
 have e:cnAt cs k=cs[k]:=by unfold cnAt;rw[List.getD,List.getElem?_eq_getElem h];rfl
 unfold snkL;rw[take_succ' cs k h,List.map_append,e];rfl
theorem gapp24 {xs ys:List (List Int)}(h:xs.length+ys.length<=1000000000):gapp 24 xs ys=some (xs++ys):=gapp_some (by omega) (by omega)
theorem ra_okC (d:Dev)(ps:List Int)(cs:List Conn)(hp:PsR ps)(hpl:ps.length<=1048576)(hc:CnsOk cs):
 ∃o,spec_RouteAll (d,(ps,cs))=some o/\impl_RouteAll (d,(ps,cs))=some o/\o.1.length<=100/\(∀r∈o.1,r.1.length<=828/\r.2.length<=828)/\RoQ d ps cs o/\(o.2=true->DOk d/\cnsP (ps.length:Int) cs=true/\∀k,k<cs.length->rgood d ps (cnAt cs k)=true):=by
 unfold spec_RouteAll impl_RouteAll;dsimp only;rw[devOk_spec,devOk_impl];simp only[Option.bind_some];by_cases hd:DOk d
 rotate_left
 ·rw[df hd];exact⟨([],false),rfl,rfl,by simp,by simp,roQ_no d ps cs,fun e=>by cases e⟩
 rw[dt hd,cns_spec,cns_impl];simp only[Option.bind_some,Bool.not_true,cond_false];cases hcn:cnsP (ps.length:Int) cs with
 | false=>exact⟨([],false),rfl,rfl,by simp,by simp,roQ_no d ps cs,fun e=>by cases e⟩
 | true=>
  have hcs:cs.length<=100:=by
   unfold cnsP at hcn;simp only[Bool.and_eq_true,decide_eq_true_eq]at hcn;omega
  simp only[Bool.not_true,cond_false];have hcl:=hc.2;have hn:=nodesN_le hd;have hG:=dG_ok hd;obtain⟨R,hR1,hR2⟩:=graph_impl hd;rw[gmake_nat (by omega) (by omega)];simp only[Option.bind_some];rcases first_bad (fun k=>rgood d ps (cnAt cs k)) cs.length with hall | ⟨j,hj,hbad,hgood⟩
  ·have hsrc:∀c∈cs,0<=srcP d ps c.2.1:=fun c hm=>by
    obtain⟨k,hk,rfl⟩:=List.getElem_of_mem hm;have:=hall k hk;have e:cnAt cs k=cs[k]:=by unfold cnAt;rw[List.getD,List.getElem?_eq_getElem hk];rfl
    rw[e]at this;unfold rgood at this;simp only[Bool.and_eq_true,decide_eq_true_eq]at this;exact this.1
   obtain⟨o,o1,o2,o3⟩:=ro_runC hd hp hpl hcs (fun c hm=>hcl c hm) hR2 hsrc 12 1 (List.replicate (nodesN d).toNat 0) (List.replicate cs.length ([],[])) (by omega) (by omega) ⟨by simp,fun x hx=>by rw[nsAt_rep _ 0 hx];omega⟩ ⟨by simp,fun r hr=>by rw[List.eq_of_mem_replicate hr];simp⟩;refine⟨o,?_,?_,o3.1,o3.2.1,o3.2.2,fun _=>⟨hd,trivial,hall⟩⟩
   ·refine loop_upto cs.length (fun k=>(k:Int)) (fun k hk=> ?_) ?_
    ·obtain⟨g1,g2⟩:=cn_get hk;have hg:=hall k hk;unfold rgood at hg;simp only[Bool.and_eq_true,decide_eq_true_eq]at hg;have hcc:=hcl _ g2
     try dsimp only
     rw[dt (by omega),cond_true,g1];simp only[Option.bind_some];rw[src_spec d ps _ hp];simp only[Option.bind_some];rw[df (by omega),cond_false,snks_spec d ps _ hp hcc];simp only[Option.bind_some];rw[df (fun e=>by
      have h0:snksP d ps (cnAt cs k).2.2=[]:=List.eq_nil_of_length_eq_zero (by omega);rw[h0]at hg;simp at hg),cond_false,wrap_ok (by omega)];rfl
    ·try dsimp only
     rw[df (by omega),cond_false,graph_spec hd];simp only[Option.bind_some];have hgm:gmake 8 (0:Int) ((dG d).length:Int)=some (List.replicate (nodesN d).toNat 0):=by rw[hG.1,gmake_nat (by omega) (by omega)]
     rw[hgm];simp only[Option.bind_some];have o2' :loop (obS d ps cs (dG d)) (1,(List.replicate cs.length ([],[]),List.replicate (nodesN d).toNat 0))=some o:=o2;refine Eq.trans (congrArg (Option.map Sum.inr) (Eq.trans ?_ o2')) rfl;rfl
   ·refine loop_upto cs.length (fun k=>(srcL d ps (cs.take k),(snkL d ps (cs.take k),(k:Int)))) (fun k hk=> ?_) ?_
    ·obtain⟨g1,g2⟩:=cn_get hk;have hg:=hall k hk;unfold rgood at hg;simp only[Bool.and_eq_true,decide_eq_true_eq]at hg;have hcc:=hcl _ g2;have hl1:(srcL d ps (cs.take k)).length<=k:=by unfold srcL;rw[List.length_map,List.length_take];omega
     have hl2:(snkL d ps (cs.take k)).length<=k:=by unfold snkL;rw[List.length_map,List.length_take];omega
     try dsimp only
     rw[dt (by omega),cond_true,g1];simp only[Option.bind_some];rw[src_impl d ps _ hp hpl];simp only[Option.bind_some];rw[snks_impl d ps _ hp hpl hcc];simp only[Option.bind_some];rw[df (by omega),cond_false];have h0:(snksP d ps (cnAt cs k).2.2).isEmpty=false:=by simpa using hg.2
     unfold gnil;rw[Bool.true_or,if_pos rfl,h0];simp only[Option.bind_some,cond_false];rw[gapp_ok (by simp only[List.length_singleton];omega)];simp only[Option.bind_some];rw[gapp24 (by simp only[List.length_singleton];omega)];simp only[Option.bind_some];rw[srcL_take d ps hk,snkL_take d ps hk,wrap_ok (by omega)];rfl
    ·try dsimp only
     rw[df (by omega),cond_false,List.take_length,hR1];simp only[Option.bind_some];rw[routeNodes_impl hd];simp only[Option.bind_some];have hN:nodesN d=((nodesN d).toNat:Int):=by omega
     rw[hN,gmake_nat (by omega) (by omega)];simp only[Option.bind_some];have o1' :loop (obI (cs.length:Int) (srcL d ps cs) (snkL d ps cs) (dG d,R)) (1,(List.replicate (nodesN d).toNat 0,List.replicate cs.length ([],[])))=some o:=o1;refine Eq.trans (congrArg (Option.map Sum.inr) (Eq.trans ?_ o1')) rfl;rfl
  ·refine⟨([],false),?_,?_,by simp,by simp,roQ_no d ps cs,fun e=>by cases e⟩
   ·refine loop_upto j (fun k=>(k:Int)) (fun k hk=> ?_) ?_
    ·obtain⟨g1,g2⟩:=cn_get (show k<cs.length by omega);have hg:=hgood k hk;unfold rgood at hg;simp only[Bool.and_eq_true,decide_eq_true_eq]at hg;have hcc:=hcl _ g2
     try dsimp only
     rw[dt (by omega),cond_true,g1];simp only[Option.bind_some];rw[src_spec d ps _ hp];simp only[Option.bind_some];rw[df (by omega),cond_false,snks_spec d ps _ hp hcc];simp only[Option.bind_some];rw[df (fun e=>by
      have h0:snksP d ps (cnAt cs k).2.2=[]:=List.eq_nil_of_length_eq_zero (by omega);rw[h0]at hg;simp at hg),cond_false,wrap_ok (by omega)];rfl
    ·obtain⟨g1,g2⟩:=cn_get hj;have hcc:=hcl _ g2
     try dsimp only
     rw[dt (by omega),cond_true,g1];simp only[Option.bind_some];rw[src_spec d ps _ hp];simp only[Option.bind_some];by_cases h0:srcP d ps (cnAt cs j).2.1<0
     ·rw[dt h0];rfl
     ·rw[df h0,cond_false,snks_spec d ps _ hp hcc];simp only[Option.bind_some];have h1:snksP d ps (cnAt cs j).2.2=[]:=by
       unfold rgood at hbad;rw[dt (show 0<=srcP d ps (cnAt cs j).2.1 by omega)]at hbad;simpa using hbad
      rw[h1];rfl
   ·refine loop_upto j (fun k=>(srcL d ps (cs.take k),(snkL d ps (cs.take k),(k:Int)))) (fun k hk=> ?_) ?_
    ·obtain⟨g1,g2⟩:=cn_get (show k<cs.length by omega);have hg:=hgood k hk;unfold rgood at hg;simp only[Bool.and_eq_true,decide_eq_true_eq]at hg;have hcc:=hcl _ g2;have hl1:(srcL d ps (cs.take k)).length<=k:=by unfold srcL;rw[List.length_map,List.length_take];omega
     have hl2:(snkL d ps (cs.take k)).length<=k:=by unfold snkL;rw[List.length_map,List.length_take];omega
     try dsimp only
     rw[dt (by omega),cond_true,g1];simp only[Option.bind_some];rw[src_impl d ps _ hp hpl];simp only[Option.bind_some];rw[snks_impl d ps _ hp hpl hcc];simp only[Option.bind_some];rw[df (by omega),cond_false];have h0:(snksP d ps (cnAt cs k).2.2).isEmpty=false:=by simpa using hg.2
     unfold gnil;rw[Bool.true_or,if_pos rfl,h0];simp only[Option.bind_some,cond_false];rw[gapp_ok (by simp only[List.length_singleton];omega)];simp only[Option.bind_some];rw[gapp24 (by simp only[List.length_singleton];omega)];simp only[Option.bind_some];rw[srcL_take d ps (by omega),snkL_take d ps (by omega),wrap_ok (by omega)];rfl
    ·obtain⟨g1,g2⟩:=cn_get hj;have hcc:=hcl _ g2
     try dsimp only
     rw[dt (by omega),cond_true,g1];simp only[Option.bind_some];rw[src_impl d ps _ hp hpl];simp only[Option.bind_some];rw[snks_impl d ps _ hp hpl hcc];simp only[Option.bind_some];by_cases h0:srcP d ps (cnAt cs j).2.1<0
     ·rw[dt h0];rfl
     ·rw[df h0,cond_false];have h1:snksP d ps (cnAt cs j).2.2=[]:=by
       unfold rgood at hbad;rw[dt (show 0<=srcP d ps (cnAt cs j).2.1 by omega)]at hbad;simpa using hbad
      rw[h1];rfl
end Go.Pf
/-
  Own work. The law, plainly: it says true.
-/
namespace Go.Pf
open Go Go.Pu
set_option linter.unusedVariables false
noncomputable def rsoI (d:Dev)(ps:List Int)(cns:List Conn)(rs:List Rt)(v8:Int×List (Int×Bool)):Option ((Int×List (Int×Bool))⊕Bool):=
 let v9:Bool:=decide (v8.1<(cns.length:Int))
 bif v9 then(
  (gget (0,((0,0),[])) cns v8.1).bind fun v10=>
  (impl_SinkNodes (d,(ps,v10))).bind fun v11=>
  (gnil true v11).bind fun v12=>
  bif v12 then(
   Option.map Sum.inr (
    some false))else
  (gget ([],[]) rs v8.1).bind fun v13=>
  (impl_SourceNode (d,(ps,v10))).bind fun v14=>
  (impl_RouteOk (d,(v14,(v11,v13)))).bind fun v15=>
  let v16:Bool:= !v15
  bif v16 then(
   Option.map Sum.inr (
    some false))else
  (gget ([],[]) rs v8.1).bind fun v17=>
  let v18:Int:=((v17.1).length:Int)
  Pu.loop (fun(v19:(Int×List (Int×Bool)))=>
   let v20:Bool:=decide (v19.1<v18)
   bif v20 then(
    (gget 0 v17.1 v19.1).bind fun v21=>
    let v22:Bool:=mget v19.2 v21
    bif v22 then(
     Option.map Sum.inr (
      Option.map Sum.inr (
       some false)))else
    let v23:List (Int×Bool):=mset v19.2 v21 true
    let v24:Int:=wrap .i64 (v19.1+1)
    some (.inl (v24,v23)))else
   Option.map Sum.inr (
    let v21:Int:=wrap .i64 (v8.1+1)
    some (.inl (v21,v19.2)))) (0,v8.2))else
 Option.map Sum.inr (
  some true)
theorem src_node' {d:Dev}{ps:List Int}{p:Pin}(h:0<=srcP d ps p):srcP d ps p<=1000000:=by
 unfold srcP at*;split at h
 rotate_left
 ·omega
 rename_i q;rw[if_pos q];unfold outPinP at*;split at h
 rotate_left
 ·omega
 rename_i q2;rw[if_pos q2];have ho:=outP_le (tk d (psAt ps p.1));obtain⟨hd,t0,t1,_,q0,q1⟩:=tk_in (d:=d) (t:=psAt ps p.1) (ho.2.2 (by omega));omega
end Go.Pf
/-
  Own work. The law of overused nodes, plainly: it says true.
-/
namespace Go.Pf
open Go Go.Pu
set_option linter.unusedVariables false
def ovT (ld:List Int)(n:Nat):List Int:=((List.range n).map fun(t:Nat)=>(t:Int)).filter fun t=>decide (1<ld.getD t.toNat 0)
theorem ovT_succ (ld:List Int)(n:Nat):ovT ld (n+1)=if 1<ld.getD n 0 then ovT ld n++[(n:Int)]else ovT ld n:=by
 unfold ovT;rw[List.range_succ,List.map_append,List.filter_append];by_cases h:1<ld.getD n 0
 ·rw[if_pos h];simp only[List.map_cons,List.map_nil];rw[List.filter_cons_of_pos (by simpa using h)];rfl
 ·rw[if_neg h];simp only[List.map_cons,List.map_nil];rw[List.filter_cons_of_neg (by simpa using h)];simp
theorem ovT_len (ld:List Int)(n:Nat):(ovT ld n).length<=n:=by
 unfold ovT;refine Nat.le_trans (List.length_filter_le _ _) ?_
 simp
def nN (d:Dev):Nat:=if DOk d then(nodesN d).toNat else 0
theorem nN_cast (d:Dev):(if DOk d then nodesN d else 0)=(nN d:Int):=by
 unfold nN;by_cases h:DOk d
 ·have:=nodesN_le h;rw[if_pos h,if_pos h];omega
 ·rw[if_neg h,if_neg h];rfl
theorem nN_le (d:Dev):nN d<=828:=by
 unfold nN;by_cases h:DOk d
 ·have:=nodesN_le h;rw[if_pos h];omega
 ·rw[if_neg h];omega
def ovP (d:Dev)(rs:List Rt):List Int:=ovT (ldT (nN d) rs (-1) rs.length) (nN d)
theorem RouteNodes_impl (d:Dev):impl_RouteNodes d=some (nN d:Int):=by
 unfold impl_RouteNodes;rw[devOk_impl,<-nN_cast];simp only[Option.bind_some];by_cases h:DOk d
 ·rw[dt h,if_pos h,routeNodes_impl h];rfl
 ·rw[df h,if_neg h];rfl
theorem over_impl (d:Dev)(rs:List Rt)(h:RtsOk rs):impl_Overused (d,rs)=some (ovP d rs):=by
 unfold impl_Overused ovP;have hN:=nN_le d;dsimp only;rw[RouteNodes_impl];simp only[Option.bind_some];rw[usage_impl (nN d) rs (by omega) h];simp only[Option.bind_some];have hl:=ldT_len (nN d) rs (-1) rs.length;generalize ldT (nN d) rs (-1) rs.length=ld at*;rw[hl];refine loop_upto (nN d) (fun k=>(ovT ld k,(k:Int))) (fun k hk=> ?_) ?_
 ·have hov:=ovT_len ld k;dsimp only;rw[dt (by omega),cond_true,gin_nat hk,gget_some (by omega) (by omega),ovT_succ,wrap_ok (z:=(k:Int)+1) (by omega),gapp_ok (by simp;omega)];simp only[Option.bind_some,Int.toNat_natCast];by_cases q:1<ld.getD k 0
  ·rw[dt q,if_pos q];rfl
  ·rw[df q,if_neg q];rfl
 ·dsimp only;rw[df (by omega),cond_false];rfl
end Go.Pf
/-
  Own work. Routes that a finished routing gives: legal, apart, nothing overused.
-/
namespace Go.Pf
open Go Go.Pu
set_option linter.unusedVariables false
theorem cnT_val {N:Nat}{ns c0:List Int}{M:Int}(hl:c0.length=N)(hM:0<=M/\M<=1000000)(h:∀x,x<N->0<=nsAt c0 x/\nsAt c0 x<=M):∀j,j<=ns.length->∀x,x<N->(x:Int)∈ns.take j->nsAt (cnT N ns c0 j) x=nsAt c0 x+1:=by
 intro j
 induction j with
 | zero=>intro _ x _ hx;simp at hx
 | succ j ih=>
  intro hj x hx hm;have ih:=ih (by omega) x hx;have hlen:=cnT_len N ns c0 j;have h0:=h x hx;rw[take_at (show j<ns.length by omega)]at hm;unfold cnT;by_cases q:inN N (nsAt ns j)/\nsAt ns j∉ns.take j
  ·rw[if_pos q];have hyi:(((nsAt ns j).toNat:Nat):Int)=nsAt ns j:=by have:=q.1;unfold inN at this;omega
   have hy:(nsAt ns j).toNat<N:=by have:=q.1;unfold inN at this;omega
   unfold gset;rw[nsAt_set (D:=cnT N ns c0 j) _ _ (by omega)];by_cases c:x=(nsAt ns j).toNat
   ·have e:=(cnT_bd (ns:=ns) hl hM h j (by omega) x hx).2 (by rw[c,hyi];exact q.2);have e2:(cnT N ns c0 j).getD (nsAt ns j).toNat 0=nsAt c0 x:=by rw[<-c];exact e
    rw[if_pos c,e2,wrap_ok (by omega)]
   ·rw[if_neg c];rcases List.mem_append.1 hm with p | p
    ·exact ih p
    ·have:=List.mem_singleton.1 p;omega
  ·rw[if_neg q];rcases List.mem_append.1 hm with p | p
   ·exact ih p
   ·have e:=List.mem_singleton.1 p;by_cases c:nsAt ns j∈ns.take j
    ·rw[<-e]at c;exact ih c
    ·exact absurd ⟨by unfold inN;omega,c⟩ q
theorem cnT_all {N:Nat}{ns c0:List Int}{M:Int}(hl:c0.length=N)(hM:0<=M/\M<=1000000)(h:∀x,x<N->0<=nsAt c0 x/\nsAt c0 x<=M){x:Nat}(hx:x<N):nsAt (cnT N ns c0 ns.length) x=nsAt c0 x+(if(x:Int)∈ns then 1 else 0):=by
 by_cases c:(x:Int)∈ns
 ·rw[if_pos c];exact cnT_val hl hM h ns.length (Nat.le_refl _) x hx (by rw[List.take_length];exact c)
 ·rw[if_neg c,Int.add_zero];exact(cnT_bd hl hM h ns.length (Nat.le_refl _) x hx).2 (by rw[List.take_length];exact c)
def rtAt (rs:List Rt)(k:Nat):Rt:=rs.getD k ([],[])
theorem ld_succ (N:Nat)(rs:List Rt){k:Nat}(hk:k<=1000){x:Nat}(hx:x<N):nsAt (ldT N rs (-1) (k+1)) x=nsAt (ldT N rs (-1) k) x+(if(x:Int)∈(rtAt rs k).1 then 1 else 0):=by
 have hb:=ldT_bd N rs (-1) k hk;have hl:=ldT_len N rs (-1) k;have e:ldT N rs (-1) (k+1)=cnT N (rtAt rs k).1 (ldT N rs (-1) k) (rtAt rs k).1.length:=by
  show(if(k:Int)= -1 then _ else _)=_;rw[if_neg (by omega)];rfl
 rw[e];exact cnT_all (M:=1000) hl (by omega) (fun y hy=>by have:=hb y hy;omega) hx
theorem ld_one (N:Nat)(rs:List Rt){x:Nat}(hx:x<N):∀k,k<=1000->∀i,i<k->(x:Int)∈(rtAt rs i).1->1<=nsAt (ldT N rs (-1) k) x
 | 0,_,i,hi,_=>by omega
 | k+1,hk,i,hi,hm=>by
  have hb:=(ldT_bd N rs (-1) k (by omega) x hx).1;rw[ld_succ N rs (by omega) hx];by_cases c:i=k
  ·subst c;rw[if_pos hm];omega
  ·have:=ld_one N rs hx k (by omega) i (by omega) hm;split<;>omega
theorem ld_two (N:Nat)(rs:List Rt){x:Nat}(hx:x<N):∀k,k<=1000->∀i j,i<j->j<k->(x:Int)∈(rtAt rs i).1->(x:Int)∈(rtAt rs j).1->2<=nsAt (ldT N rs (-1) k) x
 | 0,_,i,j,_,hj,_,_=>by omega
 | k+1,hk,i,j,hij,hj,h1,h2=>by
  rw[ld_succ N rs (by omega) hx];by_cases c:j=k
  ·subst c;have:=ld_one N rs hx j (by omega) i hij h1;rw[if_pos h2];omega
  ·have:=ld_two N rs hx k (by omega) i j hij (by omega) h1 h2;split<;>omega
def Apart (N:Nat)(rs:List Rt):Prop:=∀i j,i<j->j<rs.length->∀x:Int,0<=x->x<(N:Int)->x∈(rtAt rs i).1->x∈(rtAt rs j).1->False
theorem apart_of {N:Nat}{rs:List Rt}(hl:rs.length<=1000)(h:∀x,x<N->nsAt (ldT N rs (-1) rs.length) x<=1):Apart N rs:=fun i j hij hj x h0 h1 hi hj2=>by
 obtain⟨v,rfl⟩:∃v:Nat,x=(v:Int):=⟨x.toNat,by omega⟩;have e1:=h v (by omega);have e2:=ld_two N rs (show v<N by omega) rs.length hl i j hij hj hi hj2;omega
theorem ov_nil {ld:List Int}:∀n,(∀x,x<n->nsAt ld x<=1)->ovT ld n=[]
 | 0,_=>rfl
 | n+1,h=>by
  have h1:=h n (by omega);unfold nsAt at h1;rw[ovT_succ,if_neg (by omega)];exact ov_nil n (fun x hx=>h x (by omega))
theorem roP_at {d:Dev}{src:Int}{snks ns ps:List Int}(h:roP d src snks ns ps=true):(1<=ns.length/\ps.length=ns.length)/\(∀k,k<ns.length->roOk d src snks ns ps k)/\∀s∈snks,s∈ns:=by
 unfold roP at h;split at h
 rotate_left
 ·cases h
 rename_i h1;split at h
 rotate_left
 ·cases h
 rename_i h2;refine⟨⟨by omega,h1.2⟩,fun k hk=>of_decide_eq_true (List.all_eq_true.1 h2 k (List.mem_range.2 hk)),fun s hs=> ?_⟩;exact of_decide_eq_true (List.all_eq_true.1 h s hs)
theorem roOk_rng {d:Dev}{src:Int}{snks ns ps:List Int}{k:Nat}(h:roOk d src snks ns ps k):DOk d/\0<=nsAt ns k/\nsAt ns k<nodesN d:=⟨h.1.1,h.1.2.1,h.1.2.2.1⟩
def mpU (mp:List (Int×Bool))(ns:List Int):Nat->List (Int×Bool)
 | 0=>mp
 | j+1=>mset (mpU mp ns j) (nsAt ns j) true
theorem mpU_get (mp:List (Int×Bool))(ns:List Int)(x:Int):∀j,j<=ns.length->(mget (mpU mp ns j) x=true↔mget mp x=true\/x∈ns.take j)
 | 0,_=>by simp[mpU]
 | j+1,hj=>by
  show mget (mset (mpU mp ns j) (nsAt ns j) true) x=true↔_;rw[mget_mset,take_at (by omega)];by_cases e:x=nsAt ns j
  ·rw[if_pos e];simp[e]
  ·rw[if_neg e,mpU_get mp ns x j (by omega)];simp[e]
def InRs (rs:List Rt)(k:Nat)(x:Int):Prop:=∃i,i<k/\x∈(rtAt rs i).1
theorem rsoI_step {d:Dev}{ps:List Int}{cns:List Conn}{rs:List Rt}(hp:PsR ps)(hpl:ps.length<=1048576)(hc:CnsOk cns)(hlen:rs.length=cns.length)(hlg:∀j,j<cns.length->LG d ps cns j (rtAt rs j))(hsk:∀j,j<cns.length->rgood d ps (cnAt cns j)=true)(hdis:Apart (nodesN d).toNat rs)
 (k:Nat) (hk:k<cns.length) (mp:List (Int×Bool)) (hx:∀x,mget mp x=true↔InRs rs k x):rsoI d ps cns rs ((k:Int),mp)=some (.inl (((k+1:Nat):Int),mpU mp (rtAt rs k).1 (rtAt rs k).1.length)):=by
 have hkr:k<rs.length:=by omega
 have hcl:=hc.1;obtain⟨hgc,hcm⟩:=cn_get hk;have hck:=hc.2 _ hcm;unfold CnOk at hck;have hsl:=snks_len d ps (cnAt cns k).2.2;have hgr:gget (([],[]):Rt) rs (k:Int)=some (rtAt rs k):=by
  rw[gget_nat hkr];unfold rtAt;rw[List.getD,List.getElem?_eq_getElem hkr];rfl
 have hsr:srcP d ps (cnAt cns k).2.1<=9223372036854775807:=by
  by_cases q:0<=srcP d ps (cnAt cns k).2.1
  ·have:=src_node' q;omega
  ·omega
 have hg:=hsk k hk;unfold rgood at hg;simp only[Bool.and_eq_true,decide_eq_true_eq]at hg;have hro:=hlg k hk;unfold LG at hro;have hd2:∀x,0<=x->x<nodesN d->x∈(rtAt rs k).1->¬InRs rs k x:=fun x h0 h1 h2 ⟨i,hi,hm⟩=>hdis i k hi hkr x h0 (by omega) hm h2
 unfold rsoI
 try dsimp only
 rw[dt (show(k:Int)<(cns.length:Int)by omega),cond_true,hgc];simp only[Option.bind_some];rw[snks_impl d ps _ hp hpl hck];simp only[Option.bind_some];have h0:(snksP d ps (cnAt cns k).2.2).isEmpty=false:=by simpa using hg.2
 rw[gnil_ok,h0];simp only[Option.bind_some,cond_false];rw[hgr,src_impl d ps _ hp hpl];simp only[Option.bind_some];generalize rtAt rs k=r at*;obtain⟨ns,pr⟩:=r;simp only at hro hd2 ⊢;rw[ro_impl d _ _ ns pr (by omega) hsr,hro];simp only[Option.bind_some,Bool.not_true,cond_false];obtain⟨_,hat,_⟩:=roP_at hro;have hnl:ns.length<=1048576:=by
  unfold roP at hro;split at hro
  ·rename_i q;have:=rnN_le d;omega
  ·cases hro
 refine loop_upto ns.length (fun j=>((j:Int),mpU mp ns j)) (fun j hj=> ?_) ?_
 ·try dsimp only
  obtain⟨_,r0,r1⟩:=roOk_rng (hat j hj);have hf:mget (mpU mp ns j) (nsAt ns j)=false:=by
   rw[Bool.eq_false_iff];intro e;rcases(mpU_get mp ns _ j (by omega)).1 e with q | q
   ·exact hd2 _ r0 r1 (nsAt_in hj) ((hx _).1 q)
   ·exact(hat j hj).2.1 q
  rw[dt (show(j:Int)<(ns.length:Int)by omega),cond_true,nsAt_get hj];simp only[Option.bind_some];rw[hf,cond_false,wrap_ok (by omega)];rfl
 ·try dsimp only
  rw[df (by omega),cond_false,wrap_ok (by omega)];rfl
theorem rsoI_true {d:Dev}{ps:List Int}{cns:List Conn}{rs:List Rt}(hp:PsR ps)(hpl:ps.length<=1048576)(hc:CnsOk cns)(hlen:rs.length=cns.length)(hlg:∀j,j<cns.length->LG d ps cns j (rtAt rs j))(hsk:∀j,j<cns.length->rgood d ps (cnAt cns j)=true)(hdis:Apart (nodesN d).toNat rs):
 ∀(m k:Nat) (mp:List (Int×Bool)),k+m=cns.length->(∀x,mget mp x=true↔InRs rs k x)->loop (rsoI d ps cns rs) ((k:Int),mp)=some true
 | 0,k,mp,hk,_=>by
  have e:k=cns.length:=by omega
  subst e;rw[loop_eq];unfold rsoI;dsimp only;rw[df (show ¬(cns.length:Int)<(cns.length:Int)by omega)];rfl
 | m+1,k,mp,hk,hx=>by
  refine(loop_inl' (rsoI_step hp hpl hc hlen hlg hsk hdis k (by omega) mp hx)).trans ?_
  refine rsoI_true hp hpl hc hlen hlg hsk hdis m (k+1) _ (by omega) (fun x=> ?_);rw[mpU_get mp _ x _ (Nat.le_refl _),List.take_length,hx]
  constructor
  ·rintro(⟨i,hi,hm⟩ | hm)
   ·exact⟨i,by omega,hm⟩
   ·exact⟨k,by omega,hm⟩
  ·rintro⟨i,hi,hm⟩
   by_cases e:i=k
   ·subst e;exact .inr hm
   ·exact .inl ⟨i,by omega,hm⟩
structure Fin' (d:Dev)(ps:List Int)(cns:List Conn)(rs:List Rt):Prop where
 dev:DOk d
 cn:cnsP (ps.length:Int) cns=true
 len:rs.length=cns.length
 lg:∀j,j<cns.length->LG d ps cns j (rtAt rs j)
 sk:∀j,j<cns.length->rgood d ps (cnAt cns j)=true
 ld:∀x,x<(nodesN d).toNat->nsAt (ldT (nodesN d).toNat rs (-1) rs.length) x<=1
theorem Fin'.ap {d:Dev}{ps:List Int}{cns:List Conn}{rs:List Rt}(h:Fin' d ps cns rs)(hl:cns.length<=1000):Apart (nodesN d).toNat rs:=apart_of (by rw[h.len];exact hl) h.ld
theorem routes_true {d:Dev}{ps:List Int}{cns:List Conn}{rs:List Rt}(hp:PsR ps)(hpl:ps.length<=1048576)(hc:CnsOk cns)(hl:cns.length<=1000)(h:Fin' d ps cns rs):impl_RoutesOk (d,(ps,(cns,rs)))=some true:=by
 have hlen:=h.len;unfold impl_RoutesOk
 try dsimp only
 rw[cns_impl,h.cn];simp only[Option.bind_some];rw[Bool.not_true,cond_false,df (show ¬(rs.length:Int)≠(cns.length:Int)by omega),cond_false];exact rsoI_true hp hpl hc h.len h.lg h.sk (h.ap hl) cns.length 0 [] (by omega) (fun x=>by
  constructor
  ·intro e;simp[mget]at e
  ·rintro⟨i,hi,_⟩;omega)
theorem over_nil {d:Dev}{ps:List Int}{cns:List Conn}{rs:List Rt}(hrs:RtsOk rs)(h:Fin' d ps cns rs):impl_Overused (d,rs)=some []:=by
 rw[over_impl d rs hrs];unfold ovP;have e:nN d=(nodesN d).toNat:=by unfold nN;rw[if_pos h.dev]
 rw[e,ov_nil _ h.ld]
theorem ra_fin {d:Dev}{ps:List Int}{cs:List Conn}(hp:PsR ps)(hpl:ps.length<=1048576)(hc:CnsOk cs):
 ∃o,spec_RouteAll (d,(ps,cs))=some o/\impl_RouteAll (d,(ps,cs))=some o/\RtsOk o.1/\(o.2=false->o.1=[])/\(o.2=true->Fin' d ps cs o.1):=by
 obtain⟨o,o1,o2,o3,o4,o5,o6⟩:=ra_okC d ps cs hp hpl hc;refine⟨o,o1,o2,⟨by omega,fun r hr=>by have:=o4 r hr;exact⟨by omega,by omega⟩⟩,o5.1,fun e=> ?_⟩;obtain⟨q1,q2,q3⟩:=o5.2 e;obtain⟨p1,p2,p3⟩:=o6 e;exact⟨p1,p2,q1,q2,p3,q3⟩
end Go.Pf
/-
  Own work. The law of the router, plainly: it says true.
-/
namespace Go.Pf
open Go Go.Pu
set_option linter.unusedVariables false
theorem law_FnRouterLegal (x:List Int)(h:InR (tS 0 (.int .u8)) x):laws_FnRouterLegal x=some true:=by
 unfold laws_FnRouterLegal;rw[big_ok];simp only[Option.bind_some];by_cases hb:1048576<(x.length:Int)
 ·rw[dt hb];rfl
 rw[df hb,cond_false];obtain⟨⟨d,ks,cs,ps⟩,e,hp⟩:=placed_tot (b:=x) (by unfold CdOk;omega);rw[e];simp only at hp;simp only[Option.bind_some];have hpl:=hp.pl.len;have hkl:=hp.len;have hple:PsR ps:=fun p hq=>by have:=hp.tile p hq;omega
 have hc:=hp.cns;have hcl:=cnsP_len hc;have hok:CnsOk cs:=⟨by omega,fun c hm=>by have:=(cnsP_mem hc hm).1;unfold CnOk;omega⟩;obtain⟨o,o1,o2,o3,o4,o5⟩:=ra_fin (d:=d) hple (by omega) hok;rw[o1,o2];simp only[Option.bind_some,beq_self_eq_true,Bool.true_xor,Bool.not_true,cond_false];cases hb2:o.2 with
 | false=>
  rw[o4 hb2];rw[place_impl d ks ps (fun p hq=>hple p hq),hp.place];rfl
 | true=>
  have hf:=o5 hb2;have h100:cs.length<=1000:=by omega
  rw[routes_true hple (by omega) hok h100 hf,over_nil o3 hf];rfl
end Go.Pf
