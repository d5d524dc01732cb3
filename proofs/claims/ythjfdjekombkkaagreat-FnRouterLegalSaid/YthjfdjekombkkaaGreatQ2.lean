/-
  Own work: parts Pcl, Pcs, Pcx, Nti, Cns, LawConnsOk, LawPlaceCost, Ntj, Dsb, Dsc, Dsd, Cpa, Grw, Rta, Sep, Rlg, Rtb, plain lemmas.
-/
import Derived.Test.YthjfdjekombkkaaGreatQ1
import Derived.Test.YthjfdjekombkkaaGreatQ0
/-
  Own work. Packing, plainly: the search for partners.
-/
namespace Go.Pf
open Go Go.Pu
set_option linter.unusedVariables false
def scP (n:Net)(e:Le)(rest:List Le):Nat->Int×Int
 | 0=>(-1,-1)
 | k+1=>if(pinsP n [e,leAt rest k]).length<=5/\(scP n e rest k).2<com n e (leAt rest k)then((k:Int),com n e (leAt rest k))else scP n e rest k
theorem com_le {n:Net}(h:netP n=true){e r:Le}(he:leOk n e):0<=com n e r/\com n e r<=5:=by
 have h1:=nds_len h he;have h2:=cmA_le (ndsLe n e) (ndsLe n r) (ndsLe n e).length;unfold com;omega
theorem scP_ok {n:Net}(h:netP n=true){e:Le}(he:leOk n e)(rest:List Le)(k:Nat): -1<=(scP n e rest k).1/\(scP n e rest k).1<k∧-1<=(scP n e rest k).2/\(scP n e rest k).2<=5:=by
 induction k with
 | zero=>simp[scP]
 | succ k ih=>
  unfold scP;split
  ·have:=com_le h (r:=leAt rest k) he;exact⟨by simp only;omega,by simp only;omega,by simp only;omega,by simp only;omega⟩
  ·omega
inductive Packs (n:Net):List Blk->List Le->List Blk->Prop
 | nil (bs:List Blk):Packs n bs [] bs
 | two (bs:List Blk) (e:Le) (rest:List Le) (b:Nat) (out:List Blk):(scP n e rest rest.length).1=(b:Int)->b<rest.length->Packs n (bs++[(3,(0,[e,leAt rest b]))]) (rest.take b++rest.drop (b+1)) out->Packs n bs (e::rest) out
 | one (bs:List Blk) (e:Le) (rest:List Le) (out:List Blk):(scP n e rest rest.length).1<0->Packs n (bs++[(3,(0,[e]))]) rest out->Packs n bs (e::rest) out
theorem packs_ex {n:Net}(h:netP n=true):∀(m:Nat) (bs:List Blk) (left:List Le),left.length<=m->(∀e∈left,leOk n e)->∃out,Packs n bs left out
 | _,bs,[],_,_=>⟨bs,.nil bs⟩
 | 0,bs,e::rest,hm,_=>by simp at hm
 | m+1,bs,e::rest,hm,ho=>by
  have hs:=scP_ok h (ho e (by simp)) rest rest.length;simp only[List.length_cons]at hm;by_cases c:(scP n e rest rest.length).1<0
  ·obtain⟨out,hp⟩:=packs_ex h m (bs++[(3,(0,[e]))]) rest (by omega) (fun x hx=>ho x (by simp[hx]));exact⟨out,.one bs e rest out c hp⟩
  ·obtain⟨b,hb⟩:∃b:Nat,(scP n e rest rest.length).1=(b:Int):=⟨(scP n e rest rest.length).1.toNat,by omega⟩;obtain⟨out,hp⟩:=packs_ex h m (bs++[(3,(0,[e,leAt rest b]))]) (rest.take b++rest.drop (b+1)) (by simp;omega) (fun x hx=>by
    rcases List.mem_append.1 hx with q | q
    ·exact ho x (List.mem_cons_of_mem _ (List.mem_of_mem_take q))
    ·exact ho x (List.mem_cons_of_mem _ (List.mem_of_mem_drop q)))
   exact⟨out,.two bs e rest b out hb (by omega) hp⟩
theorem packs_grow {n:Net}{bs:List Blk}{left:List Le}{out:List Blk}(h:Packs n bs left out):bs.length<=out.length/\(left≠[]->bs.length<out.length)/\((∀b∈bs,b.2.2.length<=2)->∀b∈out,b.2.2.length<=2):=by
 induction h with
 | nil bs=>exact⟨Nat.le_refl _,fun q=>absurd rfl q,fun q=>q⟩
 | two bs e rest b out _ _ _ ih=>
  obtain⟨i1,_,i3⟩:=ih;rw[List.length_append]at i1;simp only[List.length_cons,List.length_nil]at i1;refine⟨by omega,fun _=>by omega,fun q=>i3 fun x hx=> ?_⟩;rcases List.mem_append.1 hx with p | p
  ·exact q x p
  ·rw[List.mem_singleton]at p;subst p;simp
 | one bs e rest out _ _ ih=>
  obtain⟨i1,_,i3⟩:=ih;rw[List.length_append]at i1;simp only[List.length_cons,List.length_nil]at i1;refine⟨by omega,fun _=>by omega,fun q=>i3 fun x hx=> ?_⟩;rcases List.mem_append.1 hx with p | p
  ·exact q x p
  ·rw[List.mem_singleton]at p;subst p;simp
def finP (out:List Blk):List Blk×Bool:=if 64<(out.length:Int)then([],false)else(out,true)
noncomputable def pkF (v0:Net):(List Blk×List Le)->Option ((List Blk×List Le)⊕(List Blk×Bool)):=(fun(v12:(List (Int×(Int×List (Int×Int)))×List (Int×Int)))=>
 let v13:Int:=((v12.2).length:Int)
 let v14:Bool:=decide (0<v13)
 bif v14 then(
  (gin (v12.2).length 0).bind fun _=>
  (gget (0,0) v12.2 0).bind fun v16=>
  let v17:List (Int×Int):=[v16]
  (impl_leNodes (v0,v16)).bind fun v18=>
  Pu.loop (fun(v19:(Int×(Int×Int)))=>
   let v20:Int:=((v12.2).length:Int)
   let v21:Bool:=decide (v19.2.2<v20)
   bif v21 then(
    joinO (
     (gin (v12.2).length v19.2.2).bind fun _=>
     (gget (0,0) v12.2 v19.2.2).bind fun v23=>
     let v24:List (Int×Int):=[v16,v23]
     some (.inl v24)) (fun(v22:List (Int×Int))=>
     (gin (v12.2).length v19.2.2).bind fun _=>
     (gget (0,0) v12.2 v19.2.2).bind fun v24=>
     (impl_leNodes (v0,v24)).bind fun v25=>
     (impl_commonCount (v18,v25)).bind fun v26=>
     (impl_pinNodes (v0,(3,(0,v22)))).bind fun v27=>
     let v28:Int:=((v27).length:Int)
     let v29:Bool:=decide (v28<=5)
     bif v29 then(
      let v30:Bool:=decide (v19.2.1<v26)
      bif v30 then(
       let v31:Int:=wrap .i64 (v19.2.2+1)
       some (.inl (v19.2.2,(v26,v31))))else
      let v31:Int:=wrap .i64 (v19.2.2+1)
      some (.inl (v19.1,(v19.2.1,v31))))else
     let v30:Int:=wrap .i64 (v19.2.2+1)
     some (.inl (v19.1,(v19.2.1,v30)))))else
   Option.map Sum.inr (
    let v22:Bool:=decide (0<v19.1)
    bif v22 then(
     (gin (v12.2).length v19.1).bind fun _=>
     (gget (0,0) v12.2 v19.1).bind fun v24=>
     let v25:List (Int×Int):=[v24]
     (gapp 16 v17 v25).bind fun v26=>
     (gslice v12.2 0 v19.1).bind fun v27=>
     let v28:Int:=wrap .i64 (v19.1+1)
     (gslice v12.2 v28 ((v12.2).length:Int)).bind fun v29=>
     (gapp 16 v27 v29).bind fun v30=>
     (gslice v30 1 ((v30).length:Int)).bind fun v31=>
     let v32:List (Int×(Int×List (Int×Int))):=[(3,(0,v26))]
     (gapp 40 v12.1 v32).bind fun v33=>
     some (.inl (v33,v31)))else
    (gslice v12.2 1 ((v12.2).length:Int)).bind fun v23=>
    let v24:List (Int×(Int×List (Int×Int))):=[(3,(0,v17))]
    (gapp 40 v12.1 v24).bind fun v25=>
    some (.inl (v25,v23)))) ((-1),((-1),1)))else
 Option.map Sum.inr (
  let v15:Int:=((v12.1).length:Int)
  let v16:Bool:=decide (64<v15)
  bif v16 then(
   some (([]:List (Int×(Int×List (Int×Int)))),false))else
  some (v12.1,true)))
def b1 (b:Int):Int:=if b<0 then -1 else b+1
theorem les2 {n:Net}{e r:Le}(he:leOk n e)(hr:leOk n r):lesP n [e,r]=true:=by
 unfold lesP;simp[he,hr]
theorem leAt_cons (e:Le)(rest:List Le)(k:Nat):leAt (e::rest) (k+1)=leAt rest k:=by unfold leAt;simp
theorem leAt_mem {ls:List Le}{k:Nat}(h:k<ls.length):leAt ls k∈ls:=by rw[<-le_eq h];exact List.getElem_mem h
theorem gslice_preL {xs:List Le}{k:Nat}(h:k<=xs.length):gslice xs 0 (k:Int)=some (xs.take k):=by
 unfold gslice;rw[if_pos ⟨by omega,by omega,by omega⟩];simp
theorem gslice_sufL {xs:List Le}{k:Nat}(h:k<=xs.length):gslice xs (k:Int) (xs.length:Int)=some (xs.drop k):=by
 unfold gslice;rw[if_pos ⟨by omega,by omega,by omega⟩];simp
theorem pkF_scan {n:Net}(hb:NetB n)(hn:netP n=true)(e:Le)(rest:List Le)(bs:List Blk)(ho:∀x∈e::rest,leOk n x)(hl:rest.length<=1000)(hbl:bs.length<=1000):
 pkF n (bs,e::rest)=some (.inl (if 0<b1 (scP n e rest rest.length).1 then(bs++[(3,(0,[e,leAt rest (scP n e rest rest.length).1.toNat]))],rest.take (scP n e rest rest.length).1.toNat++rest.drop ((scP n e rest rest.length).1.toNat+1))else(bs++[(3,(0,[e]))],rest))):=by
 have he:=ho e (by simp);unfold pkF;have hg0:gget ((0,0):Le) (e::rest) 0=some e:=by rw[gget_some (by omega) (by simp only[List.length_cons];omega)];rfl
 have hi0:gin (e::rest).length 0=some ():=gin_some (by omega) (by simp only[List.length_cons];omega)
 try dsimp only
 rw[dt (show 0<((e::rest).length:Int)by simp only[List.length_cons];omega),cond_true,hi0,hg0];simp only[Option.bind_some];rw[nds_impl hn he];simp only[Option.bind_some];refine loop_upto rest.length (fun k=>(b1 (scP n e rest k).1,((scP n e rest k).2,((1+k:Nat):Int)))) (fun k hk=> ?_) ?_
 ·have hsc:=scP_ok hn he rest k;have hr:=ho (leAt rest k) (List.mem_cons_of_mem _ (leAt_mem hk));have hk2:1+k<(e::rest).length:=by simp only[List.length_cons];omega
  have hgk:gget ((0,0):Le) (e::rest) ((1+k:Nat):Int)=some (leAt rest k):=by
   rw[le_get hk2,Nat.add_comm,leAt_cons]
  have hik:gin (e::rest).length ((1+k:Nat):Int)=some ():=gin_nat hk2;have hit:itemP n (3,(0,[e,leAt rest k]))=true:=les2 he hr;have hpin:pinN n (3,(0,[e,leAt rest k]))=pinsP n [e,leAt rest k]:=rfl
  try dsimp only
  rw[dt (show((1+k:Nat):Int)<((e::rest).length:Int)by omega),cond_true,hik,hgk];simp only[Option.bind_some];rw[join_in,nds_impl hn hr];simp only[Option.bind_some];rw[com_impl hn he hr];simp only[Option.bind_some];rw[pinN_impl hb hn hit (by simp),hpin];simp only[Option.bind_some];show _=some (Sum.inl (b1 (if(pinsP n [e,leAt rest k]).length<=5/\(scP n e rest k).2<com n e (leAt rest k)then((k:Int),com n e (leAt rest k))else scP n e rest k).1,((if(pinsP n [e,leAt rest k]).length<=5/\(scP n e rest k).2<com n e (leAt rest k)then((k:Int),com n e (leAt rest k))else scP n e rest k).2,((1+(k+1):Nat):Int))));have hw:wrap .i64 (((1+k:Nat):Int)+1)=((1+(k+1):Nat):Int):=by rw[wrap_ok (by omega)];omega
  by_cases c1:((pinsP n [e,leAt rest k]).length:Int)<=5
  ·rw[dt c1,cond_true];by_cases c2:(scP n e rest k).2<com n e (leAt rest k)
   ·rw[dt c2,cond_true,if_pos ⟨by omega,c2⟩,hw];have e1:b1 (k:Int)=((1+k:Nat):Int):=by unfold b1;rw[if_neg (by omega)];omega
    rw[e1]
   ·rw[df c2,cond_false,if_neg (fun q=>c2 q.2),hw]
  ·rw[df c1,cond_false,if_neg (fun q=>c1 (by omega)),hw]
 ·have hsc:=scP_ok hn he rest rest.length;generalize scP n e rest rest.length=s at*;have hlen:((1+rest.length:Nat):Int)=((e::rest).length:Int):=by simp only[List.length_cons];omega
  try dsimp only
  rw[hlen,df (show ¬((e::rest).length:Int)<((e::rest).length:Int)by omega),cond_false];refine mapS ?_
  by_cases c:s.1<0
  ·have e1:b1 s.1= -1:=by unfold b1;rw[if_pos c]
   have hs1:gslice (e::rest) 1 ((e::rest).length:Int)=some rest:=gslice_sufL (k:=1) (by simp only[List.length_cons];omega);rw[e1,df (show ¬(0:Int)< -1 by omega),cond_false,if_neg (show ¬(0:Int)< -1 by omega),hs1];simp only[Option.bind_some];rw[gapp40 (by simp only[List.length_cons,List.length_nil];omega)];rfl
  ·obtain⟨b,hb'⟩:∃b:Nat,s.1=(b:Int):=⟨s.1.toNat,by omega⟩;have e1:b1 s.1=((b+1:Nat):Int):=by unfold b1;rw[if_neg c,hb'];omega
   have hbr:b<rest.length:=by omega
   have hbl2:b+1<(e::rest).length:=by simp only[List.length_cons];omega
   rw[e1,dt (show(0:Int)<((b+1:Nat):Int)by omega),cond_true,if_pos (show(0:Int)<((b+1:Nat):Int)by omega),gin_nat hbl2,le_get hbl2,leAt_cons];simp only[Option.bind_some];rw[gapp16l (by simp),gslice_preL (show b+1<=(e::rest).length by omega),wrap_ok (by omega)];simp only[Option.bind_some];have e2:(((b+1:Nat):Int)+1)=((b+2:Nat):Int):=by omega
   rw[e2,gslice_sufL (show b+2<=(e::rest).length by omega)];simp only[Option.bind_some];rw[gapp16l (by rw[List.length_take,List.length_drop];omega)];simp only[Option.bind_some];have e3:∀zs:List Le,zs=(e::rest).take (b+1)++(e::rest).drop (b+2)->gslice zs 1 (zs.length:Int)=some (rest.take b++rest.drop (b+1)):=fun zs hz=>by
    subst hz;rw[show(1:Int)=((1:Nat):Int)from rfl,gslice_sufL (by simp)];rfl
   rw[e3 _ rfl];simp only[Option.bind_some];rw[gapp40 (by simp only[List.length_cons,List.length_nil];omega),hb',Int.toNat_natCast];rfl
theorem loop_inl {σ ω:Type}{f:σ->Option (σ⊕ω)}{s s' :σ}(h:f s=some (.inl s')):loop f s=loop f s' :=by rw[loop_eq,h]
theorem loop_inr {σ ω:Type}{f:σ->Option (σ⊕ω)}{s:σ}{o:ω}(h:f s=some (.inr o)):loop f s=some o:=by rw[loop_eq,h]
theorem pkF_run {n:Net}(hb:NetB n)(hn:netP n=true){bs:List Blk}{left:List Le}{out:List Blk}(h:Packs n bs left out):(∀x∈left,leOk n x)->bs.length+left.length<=1000->loop (pkF n) (bs,left)=some (finP out):=by
 induction h with
 | nil bs=>
  intro _ _;refine loop_inr ?_
  unfold pkF finP
  try dsimp only
  rw[df (show ¬0<(([]:List Le).length:Int)by simp),cond_false];by_cases c:64<(bs.length:Int)
  ·rw[dt c,cond_true,if_pos c];rfl
  ·rw[df c,cond_false,if_neg c];rfl
 | two bs e rest b out h1 h2 _ ih=>
  intro ho hl;simp only[List.length_cons]at hl;have hs:=pkF_scan hb hn e rest bs ho (by omega) (by omega);rw[h1,show b1 ((b:Nat):Int)=((b+1:Nat):Int)by unfold b1;rw[if_neg (by omega)];omega,if_pos (show(0:Int)<((b+1:Nat):Int)by omega),Int.toNat_natCast]at hs;rw[loop_inl hs];refine ih (fun x hx=> ?_) ?_
  ·rcases List.mem_append.1 hx with q | q
   ·exact ho x (List.mem_cons_of_mem _ (List.mem_of_mem_take q))
   ·exact ho x (List.mem_cons_of_mem _ (List.mem_of_mem_drop q))
  ·simp only[List.length_append,List.length_cons,List.length_nil,List.length_take,List.length_drop];omega
 | one bs e rest out h1 _ ih=>
  intro ho hl;simp only[List.length_cons]at hl;have hs:=pkF_scan hb hn e rest bs ho (by omega) (by omega);rw[show b1 (scP n e rest rest.length).1= -1 by unfold b1;rw[if_pos h1],if_neg (show ¬(0:Int)< -1 by omega)]at hs;rw[loop_inl hs];refine ih (fun x hx=>ho x (List.mem_cons_of_mem _ hx)) ?_
  simp only[List.length_append,List.length_cons,List.length_nil];omega
end Go.Pf
/-
  Own work. Packing, plainly: the reference's loop.
-/
namespace Go.Pf
open Go Go.Pu
set_option linter.unusedVariables false
def lft (N:Nat)(U:List Bool)(i:Nat):List Nat:=(List.range' i (N - i)).filter fun j=> !bAu U j
theorem lft_end (N:Nat)(U:List Bool):lft N U N=[]:=by unfold lft;rw[Nat.sub_self];rfl
theorem lft_cons {N i:Nat}(h:i<N)(U:List Bool):lft N U i=if bAu U i=true then lft N U (i+1)else i::lft N U (i+1):=by
 unfold lft;rw[show N - i=(N - (i+1))+1 by omega,List.range'_succ,List.filter_cons];cases bAu U i<;>rfl
theorem lft_mem {N i:Nat}{U:List Bool}{j:Nat}(h:j∈lft N U i):i<=j/\j<N/\bAu U j=false:=by
 unfold lft at h;rw[List.mem_filter,List.mem_range'_1]at h;obtain⟨h1,h2⟩:=h;refine⟨by omega,by omega,by simpa using h2⟩
theorem lft_len (N:Nat)(U:List Bool)(i:Nat):(lft N U i).length<=N - i:=by
 unfold lft;exact Nat.le_trans (List.length_filter_le _ _) (by rw[List.length_range'];exact Nat.le_refl _)
theorem filt_ne:∀(I:List Nat) (b:Nat) (h:b<I.length),I.Nodup->I.filter (fun j=> !(j==I[b]))=I.take b++I.drop (b+1)
 | [],b,h,_=>by simp at h
 | x::xs,0,h,hn=>by
  rw[List.nodup_cons]at hn;rw[List.filter_cons,if_neg (by simp)];show xs.filter (fun j=> !(j==x))=[]++xs;rw[List.nil_append];refine List.filter_eq_self.2 fun a ha=> ?_
  have:a≠x:=fun e=>hn.1 (by rw[<-e];exact ha)
  simp[this]
 | x::xs,b+1,h,hn=>by
  rw[List.nodup_cons]at hn;have hb:b<xs.length:=by simpa using h
  have hx:x≠xs[b]:=fun e=>hn.1 (by rw[e];exact List.getElem_mem hb)
  rw[List.filter_cons,if_pos (by simpa using hx)];show x::xs.filter (fun j=> !(j==xs[b]))=x::(xs.take b++xs.drop (b+1));rw[filt_ne xs b hb hn.2]
theorem bAu_set {U:List Bool}{a:Nat}(h:a<U.length)(j:Nat):bAu (U.set a true) j=if j=a then true else bAu U j:=by
 unfold bAu;rw[List.getD,List.getD,List.getElem?_set];by_cases c:a=j
 ·subst c;simp[h]
 ·rw[if_neg c,if_neg (fun e=>c e.symm)]
theorem lft_set {N i:Nat}{U:List Bool}(hU:U.length=N){b:Nat}(hb:b<(lft N U i).length):lft N (U.set ((lft N U i).getD b 0) true) i=(lft N U i).take b++(lft N U i).drop (b+1):=by
 have hn:(lft N U i).Nodup:=List.Pairwise.sublist List.filter_sublist (List.nodup_range' (s:=i) (n:=N - i));have e:(lft N U i).getD b 0=(lft N U i)[b]:=by rw[List.getD,List.getElem?_eq_getElem hb];rfl
 rw[<-filt_ne _ b hb hn,e];have ha:=(lft_mem (List.getElem_mem hb)).2.1;generalize (lft N U i)[b]=a at*;unfold lft;rw[List.filter_filter];refine List.filter_congr fun j hj=> ?_
 rw[bAu_set (by omega)];by_cases c:j=a
 ·subst c;simp
 ·rw[if_neg c];simp[c]
def cntF (U:List Bool)(i t:Nat):Nat:=((List.range' i t).filter fun j=> !bAu U j).length
theorem cntF_succ (U:List Bool)(i t:Nat):cntF U i (t+1)=if bAu U (i+t)=true then cntF U i t else cntF U i t+1:=by
 unfold cntF;rw[List.range'_concat,List.filter_append,List.length_append,Nat.one_mul];cases h:bAu U (i+t)<;>simp[h]
theorem lft_at {N i t:Nat}(U:List Bool)(h:i+t<N)(hf:bAu U (i+t)=false):cntF U i t<(lft N U i).length/\(lft N U i).getD (cntF U i t) 0=i+t:=by
 have e:lft N U i=((List.range' i t).filter fun j=> !bAu U j)++((i+t)::lft N U (i+t+1)):=by
  have h1:=lft_cons (N:=N) (i:=i+t) h U;rw[if_neg (by simp[hf])]at h1;rw[<-h1];unfold lft;rw[<-List.filter_append,show N - i=t+(N - (i+t))by omega,<-List.range'_append,Nat.one_mul]
 have e2:cntF U i t=((List.range' i t).filter fun j=> !bAu U j).length:=rfl;rw[e,e2];refine⟨by rw[List.length_append,List.length_cons];omega,?_⟩;rw[List.getD,List.getElem?_append_right (Nat.le_refl _),Nat.sub_self];rfl
def absI (I:List Nat)(b:Int):Int:=if b<0 then -1 else((I.getD b.toNat 0:Nat):Int)
theorem leAt_map (les:List Le){I:List Nat}{k:Nat}(h:k<I.length):leAt (I.map (leAt les)) k=leAt les (I.getD k 0):=by
 rw[show leAt (I.map (leAt les)) k=(I.map (leAt les)).getD k (0,0)from rfl,List.getD,List.getElem?_map,List.getD,List.getElem?_eq_getElem h];rfl
noncomputable def pkG (v0:Net)(v11:List Le):(Int×(List Blk×List Bool))->Option ((Int×(List Blk×List Bool))⊕(List Blk×Bool)):=(fun(v14:(Int×(List (Int×(Int×List (Int×Int)))×List Bool)))=>
 let v15:Int:=((v11).length:Int)
 let v16:Bool:=decide (v14.1<v15)
 bif v16 then(
  (gin (v14.2.2).length v14.1).bind fun _=>
  (gget false v14.2.2 v14.1).bind fun v18=>
  bif v18 then(
   let v19:Int:=wrap .i64 (v14.1+1)
   some (.inl (v19,v14.2)))else
  let v19:Int:=((v14.2.1).length:Int)
  let v20:Bool:=decide (v19=64)
  bif v20 then(
   Option.map Sum.inr (
    some (([]:List (Int×(Int×List (Int×Int)))),false)))else
  let v21:Int:=wrap .i64 (v14.1+1)
  Pu.loop (fun(v22:(Int×(Int×Int)))=>
   let v23:Int:=((v11).length:Int)
   let v24:Bool:=decide (v22.1<v23)
   bif v24 then(
    (gin (v14.2.2).length v22.1).bind fun _=>
    (gget false v14.2.2 v22.1).bind fun v26=>
    bif v26 then(
     let v27:Int:=wrap .i64 (v22.1+1)
     some (.inl (v27,v22.2)))else
    (gin (v11).length v14.1).bind fun _=>
    (gget (0,0) v11 v14.1).bind fun v28=>
    (gin (v11).length v22.1).bind fun _=>
    (gget (0,0) v11 v22.1).bind fun v30=>
    let v31:List (Int×Int):=[v28,v30]
    (spec_l28Pins (v0,v31)).bind fun v32=>
    let v33:Int:=((v32).length:Int)
    let v34:Bool:=decide (5<v33)
    bif v34 then(
     let v35:Int:=wrap .i64 (v22.1+1)
     some (.inl (v35,v22.2)))else
    (gin (v11).length v14.1).bind fun _=>
    (gget (0,0) v11 v14.1).bind fun v36=>
    (gin (v11).length v22.1).bind fun _=>
    (gget (0,0) v11 v22.1).bind fun v38=>
    (spec_l28Common (v0,(v36,v38))).bind fun v39=>
    let v40:Bool:=decide (v22.2.2<v39)
    bif v40 then(
     let v41:Int:=wrap .i64 (v22.1+1)
     some (.inl (v41,(v22.1,v39))))else
    let v41:Int:=wrap .i64 (v22.1+1)
    some (.inl (v41,v22.2)))else
   Option.map Sum.inr (
    (gin (v11).length v14.1).bind fun _=>
    (gget (0,0) v11 v14.1).bind fun v26=>
    let v27:List (Int×Int):=[v26]
    let v28:Bool:=decide (0<=v22.2.1)
    bif v28 then(
     (gin (v11).length v22.2.1).bind fun _=>
     (gget (0,0) v11 v22.2.1).bind fun v30=>
     let v31:List (Int×Int):=[v30]
     (gapp 16 v27 v31).bind fun v32=>
     (gin (v14.2.2).length v22.2.1).bind fun _=>
     (gget false v14.2.2 v22.2.1).bind fun v34=>
     let v35:Bool:=true
     let v36:List Bool:=gset v14.2.2 v22.2.1 v35
     let v37:List (Int×(Int×List (Int×Int))):=[(3,(0,v32))]
     (gapp 40 v14.2.1 v37).bind fun v38=>
     let v39:Int:=wrap .i64 (v14.1+1)
     some (.inl (v39,(v38,v36))))else
    let v29:List (Int×(Int×List (Int×Int))):=[(3,(0,v27))]
    (gapp 40 v14.2.1 v29).bind fun v30=>
    let v31:Int:=wrap .i64 (v14.1+1)
    some (.inl (v31,(v30,v14.2.2))))) (v21,((-1),(-1))))else
 Option.map Sum.inr (
  let v17:Int:=((v14.2.1).length:Int)
  let v18:Bool:=decide (v17<=64)
  some (v14.2.1,v18)))
theorem pkG_scan {n:Net}(hb:NetB n)(hn:netP n=true)(les:List Le)(bs:List Blk)(U:List Bool)(i:Nat)(ho:∀x∈les,leOk n x)(hl:les.length<=1000)(hU:U.length=les.length)(hi:i<les.length)(hf:bAu U i=false)(hbl:bs.length<64)(I:List Nat)(hI:I=lft les.length U (i+1))(e:Le)(hee:e=leAt les i)(rest:List Le)(hre:rest=I.map (leAt les)):
 pkG n les ((i:Int),(bs,U))=some (.inl (if 0<=(scP n e rest rest.length).1 then(((i+1:Nat):Int),(bs++[(3,(0,[e,leAt rest (scP n e rest rest.length).1.toNat]))],U.set (I.getD (scP n e rest rest.length).1.toNat 0) true))else(((i+1:Nat):Int),(bs++[(3,(0,[e]))],U)))):=by
 have he:leOk n e:=by rw[hee];exact ho _ (leAt_mem hi)
 have hIl:I.length<=les.length - (i+1):=by rw[hI];exact lft_len _ _ _
 have hrl:rest.length=I.length:=by rw[hre,List.length_map]
 have hge:gget ((0,0):Le) les (i:Int)=some e:=by rw[le_get hi,hee]
 have hgi:gin les.length (i:Int)=some ():=gin_nat hi;unfold pkG
 try dsimp only
 rw[dt (show(i:Int)<(les.length:Int)by omega),cond_true,gin_nat (show i<U.length by omega),bAu_get (by omega),hf];simp only[Option.bind_some];rw[cond_false,df (show ¬(bs.length:Int)=64 by omega),cond_false,wrap_ok (by omega)];have e0:((i:Int)+1,((-1:Int),(-1:Int)))=(fun t:Nat=>(((i+1+t:Nat):Int),(absI I (scP n e rest (cntF U (i+1) t)).1,(scP n e rest (cntF U (i+1) t)).2))) 0:=by
  simp[cntF,scP,absI]
 rw[e0];refine loop_upto (les.length - (i+1)) (fun t:Nat=>(((i+1+t:Nat):Int),(absI I (scP n e rest (cntF U (i+1) t)).1,(scP n e rest (cntF U (i+1) t)).2))) (fun t ht=> ?_) ?_
 ·have hj:i+1+t<les.length:=by omega
  have hs:=cntF_succ U (i+1) t;have hw:wrap .i64 (((i+1+t:Nat):Int)+1)=((i+1+(t+1):Nat):Int):=by rw[wrap_ok (by omega)];omega
  try dsimp only
  rw[dt (show((i+1+t:Nat):Int)<(les.length:Int)by omega),cond_true,gin_nat (show i+1+t<U.length by omega),bAu_get (show i+1+t<U.length by omega)];simp only[Option.bind_some];cases hu:bAu U (i+1+t)with
  | true=>
   rw[hu,if_pos rfl]at hs;rw[cond_true,hs,hw]
  | false=>
   rw[hu,if_neg (by simp)]at hs;obtain⟨a1,a2⟩:=lft_at U hj hu;rw[<-hI]at a1 a2;have hr:leAt rest (cntF U (i+1) t)=leAt les (i+1+t):=by rw[hre,leAt_map les a1,a2]
   have hro:=ho _ (leAt_mem hj);have hgj:gget ((0,0):Le) les ((i+1+t:Nat):Int)=some (leAt les (i+1+t)):=le_get hj;have hgj2:gin les.length ((i+1+t:Nat):Int)=some ():=gin_nat hj;rw[cond_false,hge,hgj,hgi,hgj2];simp only[Option.bind_some];rw[pins_spec hb hn (les2 he hro) (by simp)];simp only[Option.bind_some];rw[hs];show _=some (Sum.inl (((i+1+(t+1):Nat):Int),(absI I (if(pinsP n [e,leAt rest (cntF U (i+1) t)]).length<=5/\(scP n e rest (cntF U (i+1) t)).2<com n e (leAt rest (cntF U (i+1) t))then(((cntF U (i+1) t:Nat):Int),com n e (leAt rest (cntF U (i+1) t)))else scP n e rest (cntF U (i+1) t)).1,(if(pinsP n [e,leAt rest (cntF U (i+1) t)]).length<=5/\(scP n e rest (cntF U (i+1) t)).2<com n e (leAt rest (cntF U (i+1) t))then(((cntF U (i+1) t:Nat):Int),com n e (leAt rest (cntF U (i+1) t)))else scP n e rest (cntF U (i+1) t)).2)));rw[hr];by_cases c1:5<((pinsP n [e,leAt les (i+1+t)]).length:Int)
   ·rw[dt c1,cond_true,if_neg (fun q=>by omega),hw]
   ·rw[df c1,cond_false,com_spec hn he hro];simp only[Option.bind_some];by_cases c2:(scP n e rest (cntF U (i+1) t)).2<com n e (leAt les (i+1+t))
    ·have e1:absI I ((cntF U (i+1) t:Nat):Int)=((i+1+t:Nat):Int):=by
      unfold absI;rw[if_neg (by omega),Int.toNat_natCast,a2]
     rw[dt c2,cond_true,if_pos ⟨by omega,c2⟩,hw,e1]
    ·rw[df c2,cond_false,if_neg (fun q=>c2 q.2),hw]
 ·have hc:cntF U (i+1) (les.length - (i+1))=rest.length:=by rw[hrl,hI];rfl
  have hsc:=scP_ok hn he rest rest.length;rw[hc];generalize scP n e rest rest.length=s at*;have hlen:((i+1+(les.length - (i+1)):Nat):Int)=(les.length:Int):=by omega
  try dsimp only
  rw[hlen,df (show ¬(les.length:Int)<(les.length:Int)by omega),cond_false];refine mapS ?_
  rw[hge,hgi];simp only[Option.bind_some];by_cases c:s.1<0
  ·have e1:absI I s.1= -1:=by unfold absI;rw[if_pos c]
   rw[e1,df (show ¬(0:Int)≤-1 by omega),cond_false,if_neg (show ¬0<=s.1 by omega),gapp40 (by simp only[List.length_cons,List.length_nil];omega)];rfl
  ·obtain⟨b,hb'⟩:∃b:Nat,s.1=(b:Int):=⟨s.1.toNat,by omega⟩;have hbI:b<I.length:=by omega
   have hm:I.getD b 0∈I:=by rw[List.getD,List.getElem?_eq_getElem hbI];exact List.getElem_mem hbI
   have ha:I.getD b 0<les.length:=by
    have q:∀j∈I,j<les.length:=fun j hj=>by rw[hI]at hj;exact(lft_mem hj).2.1
    exact q _ hm
   have hr:leAt rest b=leAt les (I.getD b 0):=by rw[hre,leAt_map les hbI]
   have e1:absI I s.1=((I.getD b 0:Nat):Int):=by unfold absI;rw[if_neg c,hb',Int.toNat_natCast]
   rw[e1,dt (show(0:Int)<=((I.getD b 0:Nat):Int)by omega),cond_true,if_pos (show 0<=s.1 by omega),gin_nat ha,le_get ha,hb',Int.toNat_natCast,hr];generalize I.getD b 0=a at*;simp only[Option.bind_some];rw[gapp16l (by simp),gin_nat (show a<U.length by omega),bAu_get (show a<U.length by omega)];simp only[Option.bind_some];rw[gapp40 (by simp only[List.length_cons,List.length_nil];omega),gset_nat];rfl
theorem pkG_run {n:Net}(hb:NetB n)(hn:netP n=true)(les:List Le)(ho:∀x∈les,leOk n x)(hl:les.length<=1000):∀(m i:Nat) (bs:List Blk) (U:List Bool) (out:List Blk),i+m=les.length->U.length=les.length->bs.length<=64->Packs n bs ((lft les.length U i).map (leAt les)) out->loop (pkG n les) ((i:Int),(bs,U))=some (finP out)
 | 0,i,bs,U,out,hm,hU,hbl,hp=>by
  have e:i=les.length:=by omega
  subst e;rw[lft_end]at hp;have eo:out=bs:=by cases hp;rfl
  subst eo;refine loop_inr ?_
  unfold pkG finP
  try dsimp only
  rw[df (show ¬(les.length:Int)<(les.length:Int)by omega),cond_false,dt (show(out.length:Int)<=64 by omega),if_neg (by omega)];rfl
 | m+1,i,bs,U,out,hm,hU,hbl,hp=>by
  have hi:i<les.length:=by omega
  cases hf:bAu U i with
  | true=>
   rw[lft_cons hi,if_pos hf]at hp;have hs:pkG n les ((i:Int),(bs,U))=some (.inl (((i+1:Nat):Int),(bs,U))):=by
    unfold pkG
    try dsimp only
    rw[dt (show(i:Int)<(les.length:Int)by omega),cond_true,gin_nat (show i<U.length by omega),bAu_get (by omega),hf];simp only[Option.bind_some];rw[cond_true,wrap_ok (by omega)];rfl
   rw[loop_inl hs];exact pkG_run hb hn les ho hl m (i+1) bs U out (by omega) hU hbl hp
  | false=>
   rw[lft_cons hi,if_neg (by simp[hf])]at hp;by_cases c64:bs.length=64
   ·have hg:=(packs_grow hp).2.1 (by simp);refine loop_inr ?_
    unfold pkG finP
    try dsimp only
    rw[dt (show(i:Int)<(les.length:Int)by omega),cond_true,gin_nat (show i<U.length by omega),bAu_get (by omega),hf];simp only[Option.bind_some];rw[cond_false,dt (show(bs.length:Int)=64 by omega),cond_true,if_pos (by omega)];rfl
   ·have hs:=pkG_scan hb hn les bs U i ho hl hU hi hf (by omega) _ rfl _ rfl _ rfl;rw[List.map_cons]at hp;generalize hI:lft les.length U (i+1)=I at*;generalize hre:I.map (leAt les)=rest at*;have hrl:rest.length=I.length:=by rw[<-hre,List.length_map]
    generalize hee:leAt les i=e at*;cases hp with
    | two _ _ _ b _ h1 h2 h3=>
     rw[h1,if_pos (by omega),Int.toNat_natCast]at hs;rw[loop_inl hs];refine pkG_run hb hn les ho hl m (i+1) _ _ out (by omega) (by rw[List.length_set];exact hU) (by simp only[List.length_append,List.length_cons,List.length_nil];omega) ?_
     have h4:=lft_set (i:=i+1) hU (b:=b) (by rw[hI];omega);rw[hI]at h4;rw[h4,List.map_append,List.map_take,List.map_drop,hre];exact h3
    | one _ _ _ _ h1 h2=>
     rw[if_neg (by omega)]at hs;rw[loop_inl hs];refine pkG_run hb hn les ho hl m (i+1) _ _ out (by omega) hU (by simp only[List.length_append,List.length_cons,List.length_nil];omega) ?_
     rw[hI,hre];exact h2
end Go.Pf
/-
  Own work. Packing, plainly: both functions.
-/
namespace Go.Pf
open Go Go.Pu
set_option linter.unusedVariables false
def pdA:Nat->List Blk
 | 0=>[]
 | k+1=>pdA k++[(0,((k:Int),[]))]
def otA (n:Net):Nat->List Blk
 | 0=>pdA n.1.toNat
 | k+1=>otA n k++[(1,((k:Int),[]))]
def sqA (n:Net):Nat->List Blk
 | 0=>otA n n.2.2.2.length
 | k+1=>if(sqAt n.2.1 k).1=1 then sqA n k++[(2,((k:Int),[]))]else sqA n k
def B2 (bs:List Blk):Prop:=∀b∈bs,b.2.2.length<=2
theorem B2.app {bs:List Blk}(h:B2 bs){x:Blk}(hx:x.2.2.length<=2):B2 (bs++[x]):=fun b hb=>by
 rcases List.mem_append.1 hb with q | q
 ·exact h b q
 ·rw[List.mem_singleton]at q;rw[q];exact hx
theorem pdA_ok (k:Nat):(pdA k).length=k/\B2 (pdA k):=by
 induction k with
 | zero=>exact⟨rfl,fun b hb=>by cases hb⟩
 | succ k ih=>
  show(pdA k++[(0,((k:Int),[]))]).length=_/\B2 (pdA k++[(0,((k:Int),[]))]);exact⟨by rw[List.length_append];simp only[List.length_cons,List.length_nil];omega,ih.2.app (by simp)⟩
theorem otA_ok (n:Net)(k:Nat):(otA n k).length=n.1.toNat+k/\B2 (otA n k):=by
 induction k with
 | zero=>exact pdA_ok _
 | succ k ih=>
  show(otA n k++[(1,((k:Int),[]))]).length=_/\B2 (otA n k++[(1,((k:Int),[]))]);exact⟨by rw[List.length_append];simp only[List.length_cons,List.length_nil];omega,ih.2.app (by simp)⟩
theorem sqA_ok (n:Net)(k:Nat):(sqA n k).length<=n.1.toNat+n.2.2.2.length+k/\B2 (sqA n k):=by
 induction k with
 | zero=>
  have:=otA_ok n n.2.2.2.length;exact⟨by show(otA n n.2.2.2.length).length<=_;omega,this.2⟩
 | succ k ih=>
  show(if(sqAt n.2.1 k).1=1 then sqA n k++[(2,((k:Int),[]))]else sqA n k).length<=_/\B2 (if(sqAt n.2.1 k).1=1 then sqA n k++[(2,((k:Int),[]))]else sqA n k);split
  ·exact⟨by rw[List.length_append];simp only[List.length_cons,List.length_nil];omega,ih.2.app (by simp)⟩
  ·exact⟨by omega,ih.2⟩
theorem pack_run (n:Net)(hb:NetB n):∃o:List Blk×Bool,impl_Pack n=some o/\spec_Pack n=some o/\o.1.length<=64/\B2 o.1:=by
 cases hn:netP n with
 | false=>
  refine⟨([],false),?_,?_,by simp,fun b hb=>by cases hb⟩
  ·unfold impl_Pack;rw[net_impl n hb,hn];rfl
  ·unfold spec_Pack;rw[net_spec n hb,hn];rfl
 | true=>
  obtain⟨hln,_⟩:=netP_all hn;obtain⟨l1,l2,l3,l4⟩:=hln;obtain⟨hel,heo⟩:=elL_ok hn n.2.2.1.length (Nat.le_refl _)
  change (elP n).length<=_ at hel
  change ∀e∈elP n,leOk n e at heo
  obtain⟨hsq,hs2⟩:=sqA_ok n n.2.1.length;obtain⟨out,hp⟩:=packs_ex hn (elP n).length (sqA n n.2.1.length) (elP n) (Nat.le_refl _) heo;have hg:=(packs_grow hp).2.2 hs2;refine⟨finP out,?_,?_,?_,?_⟩
  ·unfold impl_Pack;rw[net_impl n hb,hn];simp only[Option.bind_some];rw[Bool.not_true,cond_false];refine loop_upto n.1.toNat (fun k=>(pdA k,(k:Int))) (fun k hk=> ?_) ?_
   ·have hpl:=(pdA_ok k).1
    try dsimp only
    rw[dt (show(k:Int)<n.1 by omega),cond_true,gapp40 (by simp only[List.length_cons,List.length_nil];omega)];simp only[Option.bind_some];rw[wrap_ok (by omega)];rfl
   try dsimp only
   rw[df (show ¬((n.1.toNat:Nat):Int)<n.1 by omega),cond_false];refine mapS ?_
   refine loop_upto n.2.2.2.length (fun k=>((k:Int),otA n k)) (fun k hk=> ?_) ?_
   ·have hpl:=(otA_ok n k).1
    try dsimp only
    rw[dt (show(k:Int)<(n.2.2.2.length:Int)by omega),cond_true,gapp40 (by simp only[List.length_cons,List.length_nil];omega)];simp only[Option.bind_some];rw[wrap_ok (by omega)];rfl
   try dsimp only
   rw[df (show ¬(n.2.2.2.length:Int)<(n.2.2.2.length:Int)by omega),cond_false];refine mapS ?_
   refine loop_upto n.2.1.length (fun k=>((k:Int),sqA n k)) (fun k hk=> ?_) ?_
   ·have hpl:=(sqA_ok n k).1
    try dsimp only
    rw[dt (show(k:Int)<(n.2.1.length:Int)by omega),cond_true,(sq_get hk).1];simp only[Option.bind_some];show _=some (Sum.inl (((k+1:Nat):Int),if(sqAt n.2.1 k).1=1 then sqA n k++[(2,((k:Int),[]))]else sqA n k));by_cases c:(sqAt n.2.1 k).1=1
    ·rw[dt c,cond_true,if_pos c,gapp40 (by simp only[List.length_cons,List.length_nil];omega)];simp only[Option.bind_some];rw[wrap_ok (by omega)];rfl
    ·rw[df c,cond_false,if_neg c,wrap_ok (by omega)];rfl
   try dsimp only
   rw[df (show ¬(n.2.1.length:Int)<(n.2.1.length:Int)by omega),cond_false];refine mapS ?_
   rw[el_impl hb hn];simp only[Option.bind_some];exact pkF_run hb hn hp heo (by omega)
  ·unfold spec_Pack;rw[net_spec n hb,hn];simp only[Option.bind_some];rw[Bool.not_true,cond_false];refine loop_upto n.1.toNat (fun k=>((k:Int),pdA k)) (fun k hk=> ?_) ?_
   ·have hpl:=(pdA_ok k).1
    try dsimp only
    rw[dt (show(k:Int)<n.1 by omega),cond_true,gapp40 (by simp only[List.length_cons,List.length_nil];omega)];simp only[Option.bind_some];rw[wrap_ok (by omega)];rfl
   try dsimp only
   rw[df (show ¬((n.1.toNat:Nat):Int)<n.1 by omega),cond_false];refine mapS ?_
   refine loop_upto n.2.2.2.length (fun k=>((k:Int),otA n k)) (fun k hk=> ?_) ?_
   ·have hpl:=(otA_ok n k).1
    try dsimp only
    rw[dt (show(k:Int)<(n.2.2.2.length:Int)by omega),cond_true,gapp40 (by simp only[List.length_cons,List.length_nil];omega)];simp only[Option.bind_some];rw[wrap_ok (by omega)];rfl
   try dsimp only
   rw[df (show ¬(n.2.2.2.length:Int)<(n.2.2.2.length:Int)by omega),cond_false];refine mapS ?_
   refine loop_upto n.2.1.length (fun k=>((k:Int),sqA n k)) (fun k hk=> ?_) ?_
   ·have hpl:=(sqA_ok n k).1
    try dsimp only
    rw[dt (show(k:Int)<(n.2.1.length:Int)by omega),cond_true,(sq_get hk).1];simp only[Option.bind_some];show _=some (Sum.inl (((k+1:Nat):Int),if(sqAt n.2.1 k).1=1 then sqA n k++[(2,((k:Int),[]))]else sqA n k));by_cases c:(sqAt n.2.1 k).1=1
    ·rw[dt c,cond_true,if_pos c,gapp40 (by simp only[List.length_cons,List.length_nil];omega)];simp only[Option.bind_some];rw[wrap_ok (by omega)];rfl
    ·rw[df c,cond_false,if_neg c,wrap_ok (by omega)];rfl
   try dsimp only
   rw[df (show ¬(n.2.1.length:Int)<(n.2.1.length:Int)by omega),cond_false];refine mapS ?_
   rw[el_spec hb hn];simp only[Option.bind_some];rw[gmake_nat (by omega) (by omega)];simp only[Option.bind_some];have hU:∀j,bAu (List.replicate (elP n).length false) j=false:=fun j=>by
    unfold bAu;rw[List.getD,List.getElem?_replicate];split<;>rfl
   have hl:(lft (elP n).length (List.replicate (elP n).length false) 0).map (leAt (elP n))=elP n:=by
    unfold lft;rw[List.filter_eq_self.2 (fun j _=>by rw[hU j];rfl)];refine List.ext_getElem (by simp) fun j h1 h2=> ?_
    simp only[List.getElem_map,List.getElem_range',Nat.zero_add,Nat.one_mul];exact(le_eq h2).symm
   refine pkG_run hb hn (elP n) heo (by omega) (elP n).length 0 _ _ out (by omega) (by simp) (by omega) ?_
   rw[hl];exact hp
  ·unfold finP;split
   ·simp
   ·simp only;omega
  ·unfold finP;split
   ·exact fun b hb=>by cases hb
   ·exact hg
end Go.Pf
/-
  Own work. Draws, plainly: random placements.
-/
namespace Go.Pf
open Go Go.Pu
set_option linter.unusedVariables false
theorem nodup_sub:∀(xs ys:List Int),xs.Nodup->(∀x∈xs,x∈ys)->xs.length<=ys.length
 | [],_,_,_=>by simp
 | x::xs,ys,h,hs=>by
  have hx:=hs x (by simp);obtain⟨h1,h2⟩:=List.nodup_cons.1 h;have e:=nodup_sub xs (ys.erase x) h2 (fun y hy=>by
   have hne:y≠x:=fun e=>h1 (e▸hy)
   exact(List.mem_erase_of_ne hne).2 (hs y (by simp[hy])))
  rw[List.length_erase_of_mem hx]at e;have:=List.length_pos_of_mem hx;simp only[List.length_cons];omega
theorem tilesTo_nodup (d:Dev)(k:Int)(n:Nat):(tilesTo d k n).Nodup:=by
 unfold tilesTo;refine List.Pairwise.filter _ ?_
 refine List.Pairwise.map _ (fun a b h e=>h (by omega)) (List.nodup_range (n:=n))
theorem mem_tilesTo {d:Dev}{k:Int}{n:Nat}{t:Int}:t∈tilesTo d k n↔(0<=t/\t<n)/\tkp d t=k:=by
 unfold tilesTo;rw[List.mem_filter,List.mem_map]
 constructor
 ·rintro⟨⟨j,hj,rfl⟩,h2⟩
  have:=List.mem_range.1 hj;exact⟨by omega,of_decide_eq_true h2⟩
 ·rintro⟨h1,h2⟩
  exact⟨⟨t.toNat,List.mem_range.2 (by omega),by omega⟩,decide_eq_true h2⟩
theorem mem_tilesP {d:Dev}{k t:Int}(hd:DOk d)(hk:0<=k):t∈tilesP d k↔tk d t=k:=by
 unfold tilesP tk;rw[if_pos hd,mem_tilesTo];have hm:=mul_le36 hd.1 hd.2.1;by_cases h:0<=t/\t<d.1*d.2.1
 ·rw[if_pos ⟨hd,h⟩];exact⟨fun e=>e.2,fun e=>⟨by omega,e⟩⟩
 ·rw[if_neg (fun e=>h e.2)];exact⟨fun e=>absurd ⟨e.1.1,by omega⟩ h,fun e=>by omega⟩
theorem tilesP_neg {d:Dev}{k t:Int}(h:t∈tilesP d k):0<=k:=by
 unfold tilesP at h;split at h
 ·have:=(mem_tilesTo.1 h).2;have:=tkp_ge d t;omega
 ·cases h
theorem tilesP_nodup (d:Dev)(k:Int):(tilesP d k).Nodup:=by
 unfold tilesP;split
 ·exact tilesTo_nodup _ _ _
 ·exact List.nodup_nil
structure Pl (d:Dev)(ks ps:List Int):Prop where
 eq:ps.map (tk d)=ks.map bt
 nd:ps.Nodup
 ge:∀p∈ps,0<=tk d p
def Fit (d:Dev)(ks:List Int):Prop:=∀k,(ks.map bt).count k<=(tilesP d k).length
theorem count_filter (f:Int->Int)(ps:List Int)(k:Int):(ps.map f).count k=(ps.filter fun p=>decide (f p=k)).length:=by
 rw[List.count_eq_countP,List.countP_map,List.countP_eq_length_filter]
 congr 1
theorem Pl.fit {d:Dev}{ks ps:List Int}(hd:DOk d)(h:Pl d ks ps):Fit d ks:=fun k=>by
 rw[<-h.eq,count_filter];refine nodup_sub _ _ (List.Pairwise.filter _ h.nd) fun x hx=> ?_
 have:=of_decide_eq_true (List.mem_filter.1 hx).2;have h0:=h.ge x (List.mem_filter.1 hx).1;exact(mem_tilesP hd (by omega)).2 this
theorem Pl.full {d:Dev}{ks ps:List Int}{k:Int}(hd:DOk d)(h:Pl d ks ps)(ha:∀t∈tilesP d k,t∈ps):(tilesP d k).length<=(ks.map bt).count k:=by
 rw[<-h.eq,count_filter];refine nodup_sub _ _ (tilesP_nodup _ _) fun x hx=> ?_
 exact List.mem_filter.2 ⟨ha x hx,decide_eq_true ((mem_tilesP hd (tilesP_neg hx)).1 hx)⟩
theorem Pl.len {d:Dev}{ks ps:List Int}(h:Pl d ks ps):ps.length=ks.length:=by
 have:=congrArg List.length h.eq;simpa using this
theorem Pl.nil (d:Dev):Pl d [] []:=⟨rfl,List.nodup_nil,fun p hp=>by cases hp⟩
theorem Pl.snoc {d:Dev}{ks ps:List Int}{k t:Int}(h:Pl d ks ps)(ht:tk d t=bt k)(h0:0<=tk d t)(hn:t∉ps):Pl d (ks++[k]) (ps++[t]):=by
 refine⟨?_,?_,?_⟩
 ·rw[List.map_append,List.map_append,h.eq];simp[ht]
 ·rw[List.nodup_append];refine⟨h.nd,by simp,fun a ha b hb e=> ?_⟩;rw[List.mem_singleton]at hb;subst hb;subst e;exact hn ha
 ·intro p hp;rcases List.mem_append.1 hp with q | q
  ·exact h.ge p q
  ·rw[List.mem_singleton]at q;subst q;exact h0
theorem tk_lt' {d:Dev}{t:Int}(h:0<=tk d t):DOk d/\0<=t/\t<d.1*d.2.1:=by
 unfold tk at h;split at h
 ·rename_i q;exact q
 ·omega
theorem Pl.place {d:Dev}{ks ps:List Int}(h:Pl d ks ps)(hd:DOk d)(hl:ks.length<=64):placeP d ks ps=true:=by
 have el:=h.len;unfold placeP;rw[dt ⟨hd,hl,el⟩,Bool.true_and,List.all_eq_true];intro k hk;have hk:=List.mem_range.1 hk;unfold plOk;rw[dif_pos ⟨hk,by omega⟩];refine decide_eq_true ⟨h.ge _ (List.getElem_mem _),?_,fun hm=> ?_⟩
 ·have e:=congrArg (fun l=>l[k]?) h.eq;simp only[List.getElem?_map]at e;rw[List.getElem?_eq_getElem (by omega),List.getElem?_eq_getElem hk]at e;simpa using e
 ·obtain⟨j,hj,e⟩:=List.getElem_of_mem hm;rw[List.length_take]at hj;rw[List.getElem_take]at e;have:=(List.getElem_inj h.nd).1 e;omega
theorem Pl.le36 {d:Dev}{ks ps:List Int}(h:Pl d ks ps)(hd:DOk d):((ps.length:Nat):Int)<=d.1*d.2.1:=by
 have hm:=mul_le36 hd.1 hd.2.1;have e:=nodup_sub ps ((List.range (d.1*d.2.1).toNat).map fun(t:Nat)=>(t:Int)) h.nd (fun x hx=>by
  have:=tk_lt' (h.ge x hx);exact List.mem_map.2 ⟨x.toNat,List.mem_range.2 (by omega),by omega⟩)
 simp at e;omega
def RQ (d:Dev)(ks r:List Int):Prop:=(r=[]\/Pl d ks r)/\(Fit d ks->Pl d ks r)
theorem count_snoc_le {xs:List Int}{n:Nat}{k:Int}(hn:n<xs.length)(hk:bt (xs.getD n 0)=k):((xs.take n).map bt).count k+1<=(xs.map bt).count k:=by
 have e:((xs.take (n+1)).map bt).count k=((xs.take n).map bt).count k+1:=by
  rw[take_succ' xs n hn,List.map_append,List.count_append];have:bt xs[n]=k:=by rw[<-hk,List.getD,List.getElem?_eq_getElem hn];rfl
  simp[this]
 rw[<-e];refine List.Sublist.count_le _ ?_
 exact(List.take_sublist _ _).map _
theorem random_tot {b:List Int}{c:Cur}(hb:CdOk b)(hc:CurOk b c){d:Dev}(hd:DOk d){ks:List Int}(hl:ks.length<=1000):Tot (spec_l29Random ((b,c),(d,ks))) (fun r=>RQ d ks r.1/\CurOk b r.2):=by
 unfold spec_l29Random;dsimp only;have hm:=mul_le36 hd.1 hd.2.1;obtain⟨N,hN⟩:∃N:Nat,d.1*d.2.1=(N:Int):=⟨(d.1*d.2.1).toNat,by omega⟩;rw[wrap_ok (z:=d.1*d.2.1) (by omega)];refine Tot.make (by omega) (by omega) (by omega) ?_
 have e0:(d.1*d.2.1).toNat=N:=by omega
 rw[e0];refine Tot.lp (fun s=>(0<=s.1/\s.1<=(ks.length:Int))/\CurOk b (s.2.1,s.2.2.1)/\Pl d (ks.take s.1.toNat) s.2.2.2.1/\s.2.2.2.2=seenA N s.2.2.2.1) (fun s=>((ks.length:Int) - s.1).toNat) ⟨⟨by simp only;omega,by simp only;omega⟩,hc,by simpa using Pl.nil d,seenA_nil N⟩ (fun s hs=> ?_);obtain⟨i,p1,p2,ps,us⟩:=s;obtain⟨⟨i0,i1⟩,hcur,hp,hus⟩:=hs;simp only at i0 i1 hcur hp hus;dsimp only;subst hus;refine Tot.dite (fun h1=> ?_) (fun h1=>Tot.exit (Tot.ret ?_))
 rotate_left
 ·have e:i.toNat=ks.length:=by omega
  rw[e,List.take_length]at hp;exact⟨⟨.inr hp,fun _=>hp⟩,hcur⟩
 refine Tot.get i0 h1 fun kd hkd hkm=> ?_
 refine Tot.bindEq (bt_spec kd) ?_
 refine Tot.bindEq (tiles_spec d _) ?_
 have hTl:=tilesP_len d (bt kd);have hTt:∀t∈tilesP d (bt kd),tk d t=bt kd/\0<=bt kd/\0<=t/\t<(N:Int):=fun t ht=>by
  have h0:=tilesP_neg ht;have h2:=(mem_tilesP hd h0).1 ht;have h3:=tk_lt' (d:=d) (t:=t) (by omega);exact⟨h2,h0,by omega⟩
 generalize hT:tilesP d (bt kd)=T at*;refine Tot.below hb hcur fun st c' hc' hst0 hst1=> ?_
 refine Tot.join (A:=fun w=>(w<0/\∀t∈T,t∈ps)\/(w∈T/\w∉ps)) ?_ fun w hw=> ?_
 ·refine Tot.lp (fun s=>(0<=s.2/\s.2<=(T.length:Int))/\((s.1= -1/\∀j:Nat,(j:Int)<s.2->T.getD (((st+j) % (T.length:Int)).toNat) 0∈ps)\/(s.1∈T/\s.1∉ps))) (fun s=>((T.length:Int) - s.2).toNat) ⟨⟨by simp only;omega,by simp only;omega⟩,.inl ⟨rfl,fun j hj=>by simp only at hj;omega⟩⟩ (fun s hs=> ?_);obtain⟨w,j⟩:=s;obtain⟨⟨j0,j1⟩,hw⟩:=hs;simp only at j0 j1 hw;dsimp only;refine Tot.dite (fun h2=> ?_) (fun h2=>Tot.exit (Tot.ret ?_))
  rotate_left
  ·show(w<0/\∀t∈T,t∈ps)\/(w∈T/\w∉ps);rcases hw with⟨e,hj⟩ | hw
   ·refine .inl ⟨by omega,fun t ht=> ?_⟩;obtain⟨q,hq,e2⟩:=List.getElem_of_mem ht;have hst:=hst1 (by omega);by_cases hc2:st<=(q:Int)
    ·have:=hj (q - st.toNat) (by omega);rw[show st+((q - st.toNat:Nat):Int)=(q:Int)by omega,Int.emod_eq_of_lt (by omega) (by omega),Int.toNat_natCast,List.getD,List.getElem?_eq_getElem hq]at this;rw[<-e2];exact this
    ·have:=hj (q+T.length - st.toNat) (by omega);rw[show st+((q+T.length - st.toNat:Nat):Int)=(q:Int)+(T.length:Int)by omega,Int.add_emod_right,Int.emod_eq_of_lt (by omega) (by omega),Int.toNat_natCast,List.getD,List.getElem?_eq_getElem hq]at this;rw[<-e2];exact this
   ·exact .inr hw
  refine Tot.dite (fun h3=> ?_) (fun h3=> ?_)
  rotate_left
  ·refine Tot.exit (Tot.ret ?_);show(w<0/\∀t∈T,t∈ps)\/(w∈T/\w∉ps);rcases hw with⟨e,hj⟩ | hw
   ·omega
   ·exact .inr hw
  have hst:=hst1 (by omega);rw[wrap_ok (z:=st+j) (by omega),wrap_ok (z:=j+1) (by omega)];refine Tot.rem (by omega) (by omega) ?_
  have hr0:=Int.emod_nonneg (st+j) (b:=(T.length:Int)) (by omega);have hr1:=Int.emod_lt_of_pos (st+j) (b:=(T.length:Int)) (by omega);refine Tot.gin hr0 hr1 (Tot.get hr0 hr1 fun t ht htm=> ?_);obtain⟨t1,t2,t3,t4⟩:=hTt t htm;have hw1:w= -1/\∀j' :Nat,(j' :Int)<j->T.getD (((st+j') % (T.length:Int)).toNat) 0∈ps:=by
   rcases hw with q | q
   ·exact q
   ·have:=(hTt w q.1).2.2.1;omega
  obtain⟨tn,rfl⟩:∃tn:Nat,t=(tn:Int):=⟨t.toNat,by omega⟩;rw[seenA_len];refine Tot.gin (by omega) (by omega) ?_
  refine Tot.bindEq (seenA_get _ _ _ (by omega)) ?_
  refine Tot.ndite (fun h4=> ?_) (fun h4=> ?_)
  ·exact Tot.next ⟨⟨⟨by simp only;omega,by simp only;omega⟩,.inr ⟨htm,h4⟩⟩,by simp only;omega⟩
  ·refine Tot.next ⟨⟨⟨by simp only;omega,by simp only;omega⟩,.inl ⟨hw1.1,fun j' hj' => ?_⟩⟩,by simp only;omega⟩;simp only at hj';by_cases e:(j' :Int)=j
   ·rw[e,<-ht];exact h4
   ·exact hw1.2 j' (by omega)
 refine Tot.dite (fun h2=> ?_) (fun h2=> ?_)
 ·refine Tot.exit (Tot.ret ⟨⟨.inl rfl,fun hf=> ?_⟩,hc'⟩)
  exfalso
  rcases hw with⟨_,ha⟩ | ⟨hwm,_⟩
  ·have f1:=hf (bt kd);have f2:=hp.full hd (k:=bt kd) (by rw[hT];exact ha);have f3:=count_snoc_le (xs:=ks) (n:=i.toNat) (k:=bt kd) (by omega) (by rw[<-hkd]);omega
  ·have:=(hTt w hwm).2.2.1;omega
 rcases hw with⟨hw0,_⟩ | ⟨hwm,hwn⟩
 ·omega
 obtain⟨t1,t2,t3,t4⟩:=hTt w hwm;obtain⟨wn,rfl⟩:∃wn:Nat,w=(wn:Int):=⟨w.toNat,by omega⟩;rw[seenA_len];refine Tot.gin (by omega) (by omega) ?_
 refine Tot.bindEq (seenA_get _ _ _ (by omega)) ?_
 have hpl:=hp.len;rw[List.length_take]at hpl;refine Tot.app (by simp only[List.length_cons,List.length_nil];omega) (by omega) ?_
 rw[seenA_set _ _ _ (by omega),wrap_ok (z:=i+1) (by omega)];refine Tot.next ⟨⟨⟨by simp only;omega,by simp only;omega⟩,hc',?_,rfl⟩,by simp only;omega⟩;have e1:(i+1).toNat=i.toNat+1:=by omega
 show Pl d (ks.take (i+1).toNat) _;rw[e1,take_succ' ks i.toNat (by omega)];have e2:ks[i.toNat]=kd:=by rw[hkd,List.getD,List.getElem?_eq_getElem (by omega)];rfl
 rw[e2];exact hp.snoc t1 (by omega) hwn
theorem kinds_tot {bs:List Blk}(hl:bs.length<=1000):spec_l29Kinds bs=some (bs.map (·.1)):=by
 unfold spec_l29Kinds;refine loop_upto bs.length (fun k=>((k:Int),(bs.take k).map (·.1))) (fun k hk=> ?_) ?_
 ·dsimp only;rw[dt (by omega),cond_true,gget_nat hk];simp only[Option.bind_some];rw[gapp_some (by simp only[List.length_map,List.length_take,List.length_cons,List.length_nil];omega) (by simp only[List.length_map,List.length_take,List.length_cons,List.length_nil];omega)];simp only[Option.bind_some];rw[wrap_ok (by omega),take_succ' bs k hk,List.map_append];rfl
 ·dsimp only;rw[df (by omega),cond_false,List.take_length];rfl
end Go.Pf
/-
  Own work. The span of a connection, plainly.
-/
namespace Go.Pf
open Go Go.Pu
set_option linter.unusedVariables false
def psV (ps:List Int)(i:Int):Int:=ps.getD i.toNat 0
def pinIn (d:Dev)(ps:List Int)(p:Pin):Prop:=(0<=p.1/\p.1<(ps.length:Int))/\0<=tk d (psV ps p.1)
instance (d:Dev)(ps:List Int)(p:Pin):Decidable (pinIn d ps p):=by unfold pinIn;exact inferInstance
end Go.Pf
/-
  Own work. The law of connections, plainly: it says true.
-/
namespace Go.Pf
open Go Go.Pu
def pinP (n:Int)(p:Pin):Prop:=(0<=p.1/\p.1<n)/\(0<=p.2/\p.2<=4)
instance (n:Int)(p:Pin):Decidable (pinP n p):=by unfold pinP;exact inferInstance
theorem pin_spec (n:Int)(p:Pin):spec_l29Pin (p,n)=some (decide (pinP n p)):=by
 unfold spec_l29Pin;simp only[inR_spec,Option.bind_some];by_cases h1:0<=p.1
 ·by_cases h2:p.1<n
  ·rw[dt h1,dt h2,cond_true,cond_true]
   congr 1
   rw[decide_eq_decide];exact⟨fun e=>⟨⟨h1,h2⟩,e⟩,fun e=>e.2⟩
  ·rw[dt h1,df h2,df (show ¬pinP n p from fun e=>h2 e.1.2)];rfl
 ·rw[df h1,df (show ¬pinP n p from fun e=>h1 e.1.1)];rfl
theorem pin_impl (n:Int)(p:Pin)(hn: -9223372036854775807<=n)(hn2:n<=9223372036854775807):impl_pinOk (n,p)=some (decide (pinP n p)):=by
 unfold impl_pinOk;simp only[inR_impl,Option.bind_some];rw[wrap_ok (by omega)];by_cases h1:0<=p.1/\p.1<=n - 1
 ·rw[dt h1,cond_true]
  congr 1
  rw[decide_eq_decide];exact⟨fun e=>⟨by omega,e⟩,fun e=>e.2⟩
 ·rw[df h1,df (show ¬pinP n p from fun e=>h1 (by have:=e.1;omega))];rfl
def cnP (n:Int)(c:Conn):Bool:=decide ((1<=c.2.2.length/\c.2.2.length<=120)/\pinP n c.2.1) && c.2.2.all (fun p=>decide (pinP n p))
def cnsP (n:Int)(cs:List Conn):Bool:=decide ((0<=n/\n<=64)/\cs.length<=100) && cs.all (cnP n)
theorem cns_spec (n:Int)(cs:List Conn):spec_ConnsOk (n,cs)=some (cnsP n cs):=by
 unfold spec_ConnsOk cnsP;dsimp only;rw[inR_spec];simp only[Option.bind_some];by_cases h1:0<=n/\n<=64
 ·rw[dt h1];simp only[Bool.not_true,cond_false];by_cases h2:cs.length<=100
  ·rw[df (by omega),cond_false,dt ⟨h1,h2⟩,Bool.true_and];have key:∀k (hk:k<cs.length),(bif decide ((k:Int)<(cs.length:Int))then
   (gget (0,((0,0),[])) cs (k:Int)).bind fun v8=>
   let v9:Int:=((v8.2.2).length:Int)
   (spec_l01In (v9,(1,120))).bind fun v10=>
   let v11:Bool:= !v10
   bif v11 then(
    Option.map Sum.inr (
     some false))else
   (gget (0,((0,0),[])) cs (k:Int)).bind fun v12=>
   (spec_l29Pin (v12.2.1,n)).bind fun v13=>
   let v14:Bool:= !v13
   bif v14 then(
    Option.map Sum.inr (
     some false))else
   Pu.loop (fun(v15:Int)=>
    (gget (0,((0,0),[])) cs (k:Int)).bind fun v16=>
    let v17:Int:=((v16.2.2).length:Int)
    let v18:Bool:=decide (v15<v17)
    bif v18 then(
     (gget (0,((0,0),[])) cs (k:Int)).bind fun v19=>
     (gget (0,0) v19.2.2 v15).bind fun v20=>
     (spec_l29Pin (v20,n)).bind fun v21=>
     let v22:Bool:= !v21
     bif v22 then(
      Option.map Sum.inr (
       Option.map Sum.inr (
        some false)))else
     let v23:Int:=wrap .i64 (v15+1)
     some (.inl v23))else
    Option.map Sum.inr (
     let v19:Int:=wrap .i64 ((k:Int)+1)
     some (.inl v19))) 0 else
  Option.map Sum.inr (
   some true))=some (bif cnP n cs[k]then Sum.inl ((k+1:Nat):Int)else Sum.inr false):=by
    intro k hk;rw[dt (by omega),cond_true,gget_nat hk];simp only[Option.bind_some];rw[inR_spec,pin_spec];simp only[Option.bind_some];unfold cnP;by_cases q1:1<=(cs[k]).2.2.length/\(cs[k]).2.2.length<=120
    ·rw[dt (by omega)];simp only[Bool.not_true,cond_false];by_cases q2:pinP n (cs[k]).2.1
     ·rw[dt q2,dt ⟨q1,q2⟩];simp only[Bool.not_true,cond_false,Bool.true_and];have e:=loop_all (cs[k]).2.2.length (fun j:Nat=>(j:Int)) (fun j=>if h:j<(cs[k]).2.2.length then decide (pinP n (cs[k]).2.2[j])else true) (Sum.inr false) (Sum.inl (wrap .i64 ((k:Int)+1))) (f:=fun(v15:Int)=>
    bif decide (v15<((cs[k]).2.2.length:Int))then(
     (gget (0,0) (cs[k]).2.2 v15).bind fun v20=>
     (spec_l29Pin (v20,n)).bind fun v21=>
     bif !v21 then(
      Option.map Sum.inr (
       Option.map Sum.inr (
        some false)))else
     some (.inl (wrap .i64 (v15+1))))else
    Option.map Sum.inr (
     some (.inl (wrap .i64 ((k:Int)+1))))) (fun j hj hok=>by
      rw[dif_pos hj]at hok
      try dsimp only
      rw[dt (by omega),cond_true,gget_nat hj];simp only[Option.bind_some];rw[pin_spec,hok];simp only[Option.bind_some,Bool.not_true,cond_false];rw[wrap_ok (by omega)];rfl) (fun j hj hok=>by
      rw[dif_pos hj]at hok
      try dsimp only
      rw[dt (by omega),cond_true,gget_nat hj];simp only[Option.bind_some];rw[pin_spec,hok];rfl) (by
      try dsimp only
      rw[df (by omega),cond_false];rfl)
      rw[all_range_list (cs[k]).2.2 (fun p=>decide (pinP n p)) _ (fun j hj=>by rw[dif_pos hj])]at e;refine Eq.trans e ?_
      rw[wrap_ok (by omega)];cases (cs[k]).2.2.all (fun p=>decide (pinP n p))<;>rfl
     ·rw[df q2,df (show ¬((1<=(cs[k]).2.2.length/\(cs[k]).2.2.length<=120)/\pinP n (cs[k]).2.1)from fun e=>q2 e.2)];rfl
    ·rw[df (show ¬((1:Int)<=((cs[k]).2.2.length:Int)/\((cs[k]).2.2.length:Int)<=120)by omega),df (show ¬((1<=(cs[k]).2.2.length/\(cs[k]).2.2.length<=120)/\pinP n (cs[k]).2.1)from fun e=>q1 e.1)];rfl
   refine Eq.trans (loop_all cs.length (fun k:Nat=>(k:Int)) (fun k=>if h:k<cs.length then cnP n cs[k]else true) false true (fun k hk hok=> ?_) (fun k hk hok=> ?_) ?_) ?_
   ·rw[dif_pos hk]at hok;have:=key k hk;rw[hok]at this;exact this
   ·rw[dif_pos hk]at hok;have:=key k hk;rw[hok]at this;exact this
   ·rw[df (by omega),cond_false];rfl
   ·rw[all_range_list cs (cnP n) _ (fun k hk=>by rw[dif_pos hk])];cases cs.all (cnP n)<;>rfl
  ·rw[dt (by omega),cond_true,df (fun e=>h2 e.2)];rfl
 ·rw[df h1];simp only[Bool.not_false,cond_true];rw[df (fun e=>h1 e.1)];rfl
theorem cns_impl (n:Int)(cs:List Conn):impl_ConnsOk (n,cs)=some (cnsP n cs):=by
 unfold impl_ConnsOk cnsP;dsimp only;rw[inR_impl];simp only[Option.bind_some];by_cases h1:0<=n/\n<=64
 ·rw[dt h1];simp only[Bool.not_true,cond_false];by_cases h2:cs.length<=100
  ·rw[df (by omega),cond_false,dt ⟨h1,h2⟩,Bool.true_and];have key:∀k (hk:k<cs.length),(bif decide ((k:Int)<(cs.length:Int))then
   (gget (0,((0,0),[])) cs (k:Int)).bind fun v8=>
   let v9:Int:=((v8.2.2).length:Int)
   (impl_inRange (v9,(1,120))).bind fun v10=>
   let v11:Bool:= !v10
   bif v11 then(
    Option.map Sum.inr (
     some false))else
   (impl_pinOk (n,v8.2.1)).bind fun v12=>
   let v13:Bool:= !v12
   bif v13 then(
    Option.map Sum.inr (
     some false))else
   let v14:Int:=((v8.2.2).length:Int)
   Pu.loop (fun(v15:Int)=>
    let v16:Bool:=decide (v15<v14)
    bif v16 then(
     (gget (0,0) v8.2.2 v15).bind fun v17=>
     (impl_pinOk (n,v17)).bind fun v18=>
     let v19:Bool:= !v18
     bif v19 then(
      Option.map Sum.inr (
       Option.map Sum.inr (
        some false)))else
     let v20:Int:=wrap .i64 (v15+1)
     some (.inl v20))else
    Option.map Sum.inr (
     let v17:Int:=wrap .i64 ((k:Int)+1)
     some (.inl v17))) 0 else
  Option.map Sum.inr (
   some true))=some (bif cnP n cs[k]then Sum.inl ((k+1:Nat):Int)else Sum.inr false):=by
    intro k hk;rw[dt (by omega),cond_true,gget_nat hk];simp only[Option.bind_some];rw[inR_impl,pin_impl _ _ (by omega) (by omega)];simp only[Option.bind_some];unfold cnP;by_cases q1:1<=(cs[k]).2.2.length/\(cs[k]).2.2.length<=120
    ·rw[dt (by omega)];simp only[Bool.not_true,cond_false];by_cases q2:pinP n (cs[k]).2.1
     ·rw[dt q2,dt ⟨q1,q2⟩];simp only[Bool.not_true,cond_false,Bool.true_and];refine Eq.trans (loop_all (cs[k]).2.2.length (fun j:Nat=>(j:Int)) (fun j=>if h:j<(cs[k]).2.2.length then decide (pinP n (cs[k]).2.2[j])else true) (Sum.inr false) (Sum.inl (wrap .i64 ((k:Int)+1))) (fun j hj hok=> ?_) (fun j hj hok=> ?_) ?_) ?_
      ·rw[dif_pos hj]at hok
       try dsimp only
       rw[dt (by omega),cond_true,gget_nat hj];simp only[Option.bind_some];rw[pin_impl _ _ (by omega) (by omega),hok];simp only[Option.bind_some,Bool.not_true,cond_false];rw[wrap_ok (by omega)];rfl
      ·rw[dif_pos hj]at hok
       try dsimp only
       rw[dt (by omega),cond_true,gget_nat hj];simp only[Option.bind_some];rw[pin_impl _ _ (by omega) (by omega),hok];rfl
      ·try dsimp only
       rw[df (by omega),cond_false];rfl
      ·rw[all_range_list (cs[k]).2.2 (fun p=>decide (pinP n p)) _ (fun j hj=>by rw[dif_pos hj]),wrap_ok (by omega)];cases (cs[k]).2.2.all (fun p=>decide (pinP n p))<;>rfl
     ·rw[df q2,df (show ¬((1<=(cs[k]).2.2.length/\(cs[k]).2.2.length<=120)/\pinP n (cs[k]).2.1)from fun e=>q2 e.2)];rfl
    ·rw[df (show ¬((1:Int)<=((cs[k]).2.2.length:Int)/\((cs[k]).2.2.length:Int)<=120)by omega),df (show ¬((1<=(cs[k]).2.2.length/\(cs[k]).2.2.length<=120)/\pinP n (cs[k]).2.1)from fun e=>q1 e.1)];rfl
   refine Eq.trans (loop_all cs.length (fun k:Nat=>(k:Int)) (fun k=>if h:k<cs.length then cnP n cs[k]else true) false true (fun k hk hok=> ?_) (fun k hk hok=> ?_) ?_) ?_
   ·rw[dif_pos hk]at hok;have:=key k hk;rw[hok]at this;exact this
   ·rw[dif_pos hk]at hok;have:=key k hk;rw[hok]at this;exact this
   ·rw[df (by omega),cond_false];rfl
   ·rw[all_range_list cs (cnP n) _ (fun k hk=>by rw[dif_pos hk])];cases cs.all (cnP n)<;>rfl
  ·rw[dt (by omega),cond_true,df (fun e=>h2 e.2)];rfl
 ·rw[df h1];simp only[Bool.not_false,cond_true];rw[df (fun e=>h1 e.1)];rfl
end Go.Pf
/-
  Own work. The law of a placement's cost, plainly: it says true.
-/
namespace Go.Pf
open Go Go.Pu
theorem cnsP_len {n:Int}{cs:List Conn}(h:cnsP n cs=true):(0<=n/\n<=64)/\cs.length<=100:=by
 unfold cnsP at h;rw[Bool.and_eq_true]at h;exact of_decide_eq_true h.1
theorem cnsP_mem {n:Int}{cs:List Conn}(h:cnsP n cs=true){c:Conn}(hc:c∈cs):(1<=c.2.2.length/\c.2.2.length<=120)/\pinP n c.2.1/\∀p∈c.2.2,pinP n p:=by
 unfold cnsP at h;rw[Bool.and_eq_true,List.all_eq_true]at h
 have:=h.2 c hc;unfold cnP at this;rw[Bool.and_eq_true,List.all_eq_true]at this;have h1:=of_decide_eq_true this.1;exact⟨h1.1,h1.2,fun p hp=>of_decide_eq_true (this.2 p hp)⟩
end Go.Pf
/-
  Own work. Draws, plainly: a drawn device, blocks, connections and a legal placement.
-/
namespace Go.Pf
open Go Go.Pu
set_option linter.unusedVariables false
theorem pinN_w {n:Net}{b:Blk}(hn:netP n=true)(h:bkOk n b=true):(pinN n b).length<=if b.1=3 then 5 else 4:=by
 obtain⟨hln,_,hs,_⟩:=netP_all hn;have hi:=bkOk_item h;unfold bkOk at h;rw[Bool.and_eq_true]at h;have h2:=h.2;unfold blk0 at h2;unfold itemP at hi;unfold pinN;by_cases k0:b.1=0
 ·rw[if_pos k0];simp
 rw[if_neg k0];by_cases k1:b.1=1
 ·rw[if_pos k1];simp;split<;>omega
 rw[if_neg k1];by_cases k2:b.1=2
 ·rw[if_pos k2,if_neg (by omega)];rw[if_neg k0,if_neg k1,if_pos k2]at hi;have hi:=of_decide_eq_true hi;rw[if_neg (by omega)]at h2;have h3:=(of_decide_eq_true h2).2 k2;have h4:=(hs b.2.1.toNat (by omega)).1;rcases h4 with q | q
  ·omega
  ·omega
 rw[if_neg k2];by_cases k3:b.1=3
 ·rw[if_pos k3]at h2 ⊢;exact(of_decide_eq_true h2).2.2
 ·rw[if_neg k0,if_neg k1,if_neg k2,if_neg k3]at hi;cases hi
theorem gAt_ps {n:Net}{bs:List Blk}{p:Nat}(hp:p<bs.length):gAt (psA n bs bs.length) p=pinN n (bkAt bs p):=by
 have e:bkAt bs p=bs[p]:=by unfold bkAt;rw[List.getD,List.getElem?_eq_getElem hp];rfl
 unfold gAt psA;rw[List.take_length,List.getD,List.getElem?_map,List.getElem?_eq_getElem hp,e];rfl
theorem skA_w {n:Net}{bs:List Blk}(h:packP n bs=true)(x:Int):∀k,k<=bs.length->(skA x (psA n bs bs.length) k).length<=4*k+((bs.take k).map (·.1)).count 3
 | 0,_=>by simp[skA]
 | k+1,hk=>by
  have ih:=skA_w h x k (by omega);obtain⟨hn,_,hb⟩:=packP_all h;have h1:=mtA_len x (k:Int) (gAt (psA n bs bs.length) k) (skA x (psA n bs bs.length) k) (gAt (psA n bs bs.length) k).length;have h2:=pinN_w hn (hb k (by omega));show(mtA x (k:Int) (gAt (psA n bs bs.length) k) (skA x (psA n bs bs.length) k) (gAt (psA n bs bs.length) k).length).length<=_;rw[gAt_ps (show k<bs.length by omega)]at h1 ⊢;have e:bkAt bs k=bs[k]:=by unfold bkAt;rw[List.getD,List.getElem?_eq_getElem (by omega)];rfl
  rw[take_succ' bs k (by omega),List.map_append,List.count_append];rw[e]at h1 h2 ⊢;have e3:List.count 3 (List.map (fun b:Blk=>b.1) [bs[k]])=if bs[k].1=3 then 1 else 0:=by
   by_cases c:bs[k].1=3
   ·simp[c]
   ·rw[if_neg c];simp[c]
  rw[e3];by_cases c:bs[k].1=3
  ·rw[if_pos c]at h2 ⊢;omega
  ·rw[if_neg c]at h2 ⊢;omega
theorem mtA_in {x p:Int}{xs:List Int}{acc:List Pin}{Q:Pin->Prop}(ha:∀y∈acc,Q y)(hq:∀j:Nat,j<xs.length->Q (p,(j:Int))):∀k,k<=xs.length->∀y∈mtA x p xs acc k,Q y
 | 0,_=>ha
 | k+1,hk=>by
  have ih:=mtA_in (x:=x) ha hq k (by omega);show ∀y∈(if nsAt xs k=x then mtA x p xs acc k++[(p,(k:Int))]else mtA x p xs acc k),Q y;split
  ·intro y hy;rcases List.mem_append.1 hy with q | q
   ·exact ih y q
   ·rw[List.mem_singleton]at q;rw[q];exact hq k (by omega)
  ·exact ih
theorem skA_in {n:Net}{bs:List Blk}(h:packP n bs=true)(x:Int):∀k,k<=bs.length->∀y∈skA x (psA n bs bs.length) k,pinP (bs.length:Int) y
 | 0,_=>fun y hy=>by cases hy
 | k+1,hk=>by
  obtain⟨hn,_,hb⟩:=packP_all h;have h2:=pinN_w hn (hb k (by omega));refine mtA_in (skA_in h x k (by omega)) (fun j hj=> ?_) _ (Nat.le_refl _);rw[gAt_ps (show k<bs.length by omega)]at hj;have:(if(bkAt bs k).1=3 then 5 else 4)<=5:=by split<;>omega
  exact⟨⟨by simp only;omega,by simp only;omega⟩,by simp only;omega,by simp only;omega⟩
theorem cnA_all {PS:List (List Int)}{b:Int}{os:List Int}{acc:List Conn}{Q:Conn->Prop}(ha:∀c∈acc,Q c)(hq:∀j,j<os.length->0<(skA (nsAt os j) PS PS.length).length->Q (nsAt os j,((b,(j:Int)),skA (nsAt os j) PS PS.length))):∀k,k<=os.length->∀c∈cnA PS b os acc k,Q c
 | 0,_=>ha
 | k+1,hk=>by
  have ih:=cnA_all (PS:=PS) (b:=b) ha hq k (by omega);show ∀c∈(if 0<((skA (nsAt os k) PS PS.length).length:Int)then cnA PS b os acc k++[(nsAt os k,((b,(k:Int)),skA (nsAt os k) PS PS.length))]else cnA PS b os acc k),Q c;split
  ·intro c hc;rcases List.mem_append.1 hc with q | q
   ·exact ih c q
   ·rw[List.mem_singleton]at q;rw[q];exact hq k (by omega) (by omega)
  ·exact ih
theorem ctA_all {n:Net}{bs:List Blk}{PS:List (List Int)}{Q:Conn->Prop}(hq:∀k j,k<bs.length->j<(outN n (bkAt bs k)).length->0<(skA (nsAt (outN n (bkAt bs k)) j) PS PS.length).length->Q (nsAt (outN n (bkAt bs k)) j,(((k:Int),(j:Int)),skA (nsAt (outN n (bkAt bs k)) j) PS PS.length))):∀k,k<=bs.length->∀c∈ctA n bs PS k,Q c
 | 0,_=>fun c hc=>by cases hc
 | k+1,hk=>cnA_all (ctA_all hq k (by omega)) (fun j hj=>hq k j (by omega) hj) _ (Nat.le_refl _)
theorem connsP_cns {n:Net}{bs:List Blk}(hl:bs.length<=25)(h3:(bs.map (·.1)).count 3<=20):cnsP (bs.length:Int) (connsP n bs)=true:=by
 unfold connsP;split
 rotate_left
 ·unfold cnsP;rw[dt ⟨⟨by omega,by omega⟩,by simp⟩];rfl
 rename_i h;have h1:=ctA_len h (psA n bs bs.length) bs.length (Nat.le_refl _);unfold cnsP;rw[dt ⟨⟨by omega,by omega⟩,by omega⟩,Bool.true_and,List.all_eq_true];refine ctA_all (fun k j hk hj hpos=> ?_) _ (Nat.le_refl _);have hw:=skA_w h (nsAt (outN n (bkAt bs k)) j) bs.length (Nat.le_refl _);have hin:=skA_in h (nsAt (outN n (bkAt bs k)) j) bs.length (Nat.le_refl _);rw[List.take_length]at hw;rw[psA_len n bs (Nat.le_refl _)]at hpos ⊢;have ho:=outN_len ((packP_all h).2.2 k hk);unfold cnP;rw[dt ⟨⟨by simp only;omega,by simp only;omega⟩,⟨by simp only;omega,by simp only;omega⟩,by simp only;omega,by simp only;omega⟩,Bool.true_and,List.all_eq_true];exact fun p hp=>decide_eq_true (hin p hp)
theorem device_tot {b:List Int}{c:Cur}(hb:CdOk b)(hc:CurOk b c):Tot (spec_l26Device (b,c)) (fun r=>DOk r.1/\CurOk b r.2):=by
 unfold spec_l26Device;dsimp only;refine Tot.below hb hc fun x1 c1 k1 _ q1=> ?_
 have q1:=q1 (by omega);rw[wrap_ok (z:=3+x1) (by omega)];refine Tot.below hb k1 fun x2 c2 k2 _ q2=> ?_
 have q2:=q2 (by omega);rw[wrap_ok (z:=3+x2) (by omega)];refine Tot.below hb k2 fun x3 c3 k3 _ q3=> ?_
 have q3:=q3 (by omega);rw[wrap_ok (z:=1+x3) (by omega)];refine Tot.once hb k3 fun x4 c4 k4=> ?_
 dsimp only;refine Tot.ite (fun _=> ?_) (fun _=>Tot.ret ⟨⟨by simp only;omega,by simp only;omega,by simp only;omega,.inl rfl⟩,k4⟩);rw[wrap_ok (z:=3+x1 - 2) (by omega)];refine Tot.below hb k4 fun x5 c5 k5 _ q5=> ?_
 have q5:=q5 (by omega);rw[wrap_ok (z:=1+x5) (by omega)];exact Tot.ret ⟨⟨by simp only;omega,by simp only;omega,by simp only;omega,.inr (by simp only;omega)⟩,k5⟩
def TDev (d:Dev):Prop:=(d.1=4\/d.1=5)/\(d.2.1=4\/d.2.1=5)/\(2<=d.2.2.1/\d.2.2.1<=4)/\d.2.2.2=1
theorem TDev.ok {d:Dev}(h:TDev d):DOk d:=by
 obtain⟨h1,h2,h3,h4⟩:=h;exact⟨by omega,by omega,by omega,.inr (by omega)⟩
theorem tiles20 {d:Dev}(h:TDev d):(tilesP d 1).length<=20:=by
 obtain⟨W,H,T,R⟩:=d;obtain⟨h1,h2,h3,h4⟩:=h;simp only at h1 h2 h3 h4;have h5:T=2\/T=3\/T=4:=by omega
 subst h4;rcases h1 with rfl | rfl<;>rcases h2 with rfl | rfl<;>rcases h5 with rfl | rfl | rfl<;>decide+kernel
theorem fit01 {d:Dev}(h:DOk d):Fit d [0,1]:=fun k=>by
 have e:([0,1]:List Int).map bt=[0,0]:=by simp[bt]
 rw[e];have hm:9<=d.1*d.2.1:=Int.le_trans (by decide) (Int.mul_le_mul h.1.1 h.2.1.1 (by omega) (by have:=h.1.1;omega));by_cases hk:k=0
 ·subst hk;have hw:=h.1;have t0:(0:Int)∈tilesP d 0:=by
   unfold tilesP;rw[if_pos h,mem_tilesTo]
   exact⟨by omega,by unfold tkp;rw[if_pos];left;simp⟩
  have t1:(1:Int)∈tilesP d 0:=by
   unfold tilesP;rw[if_pos h,mem_tilesTo]
   refine⟨by omega,?_⟩;unfold tkp;rw[if_pos]
   right;left
   exact Int.ediv_eq_zero_of_lt (by omega) (by omega)
  have:=nodup_sub [0,1] (tilesP d 0) (by decide) (fun x hx=>by
   rcases List.mem_cons.1 hx with q | q
   ·rw[q];exact t0
   ·rw[List.mem_singleton]at q;rw[q];exact t1)
  simpa using this
 ·have:List.count k ([0,0]:List Int)=0:=by
   rw[List.count_eq_zero];simp[hk]
  omega
theorem nb_sample:spec_SampleNet ()=some (2,([(0,(1,[9]))],([(2,6)],[8,7]))):=rfl
theorem nb_sampleN:NB (2,([(0,(1,[9]))],([(2,6)],[8,7]))):=by
 refine⟨by simp,fun s hs=> ?_,by simp,fun s hs=> ?_,by simp,fun s hs=> ?_⟩
 ·simp only[List.mem_singleton]at hs;subst hs
  exact⟨by simp,fun x hx=>by simp only[List.mem_singleton]at hx;subst hx;unfold I64;omega⟩
 ·simp only[List.mem_singleton]at hs;subst hs
  unfold I64;simp only;omega
 ·simp only[List.mem_cons,List.not_mem_nil,or_false]at hs;rcases hs with rfl | rfl<;>(unfold I64;omega)
def TaskQ (b:List Int)(r:Dev×(Net×(List Blk×Cur))):Prop:=TDev r.1/\NetB r.2.1/\r.2.2.1.length<=64/\B2 r.2.2.1/\Fit r.1 (r.2.2.1.map (·.1))/\CurOk b r.2.2.2
theorem fit_nil (d:Dev):Fit d []:=fun k=>by simp
theorem task_tot {b:List Int}{c:Cur}(hb:CdOk b)(hc:CurOk b c):Tot (spec_l29Task (b,c)) (TaskQ b):=by
 unfold spec_l29Task;dsimp only;refine Tot.below hb hc fun x1 c1 k1 _ q1=> ?_
 have q1:=q1 (by omega);rw[wrap_ok (z:=4+x1) (by omega)];refine Tot.below hb k1 fun x2 c2 k2 _ q2=> ?_
 have q2:=q2 (by omega);rw[wrap_ok (z:=4+x2) (by omega)];refine Tot.below hb k2 fun x3 c3 k3 _ q3=> ?_
 have q3:=q3 (by omega);rw[wrap_ok (z:=2+x3) (by omega)];have hd:TDev (4+x1,(4+x2,(2+x3,1))):=⟨by simp only;omega,by simp only;omega,by simp only;omega,rfl⟩;generalize 4+x1=W at*;generalize 4+x2=H at*;generalize 2+x3=T at*;refine Tot.lp (fun s=>(0<=s.1/\s.1<=4)/\CurOk b s.2) (fun s=>(4 - s.1).toNat) ⟨⟨by simp only;omega,by simp only;omega⟩,k3⟩ (fun s hs=> ?_);obtain⟨i,cu⟩:=s;obtain⟨⟨i0,i1⟩,hcu⟩:=hs;simp only at i0 i1 hcu;dsimp only;refine Tot.dite (fun h1=> ?_) (fun h1=>Tot.exit (Tot.ret ⟨hd,lb_empty.netB,by simp,(fun x hx=>by cases hx),fit_nil _,hcu⟩));refine Tot.bind (sized_tot hb hcu (by omega) (by omega) (by omega)) fun s9 h9=> ?_
 obtain⟨h9n,h9c⟩:=h9;refine Tot.bind (hash_tot h9n) fun n10 h10=> ?_
 refine Tot.join (A:=NB) ?_ fun n hn=> ?_
 ·refine Tot.dite (fun _=> ?_) (fun _=>Tot.next h10);rw[nb_sample];exact Tot.next nb_sampleN
 refine Tot.join (A:=fun v=>LB (v.2.2.2,(v.1,(v.2.1,v.2.2.1)))) ?_ fun v12 h12=> ?_
 ·refine Tot.bind (depthMap_tot hn) fun m hm=> ?_
  refine Tot.bind (toLuts_tot hn hm.2) fun l hl=> ?_
  exact Tot.next hl
 have hN:=h12.netB;generalize ((v12.2.2.2,(v12.1,(v12.2.1,v12.2.2.1))):Net)=N at*;obtain⟨o,_,he,ho,h2⟩:=pack_run N hN;refine Tot.bindEq he ?_
 refine Tot.join (A:=fun v=>CurOk b v.2/\(v.1=true->Fit (W,(H,(T,1))) (o.1.map (·.1)))) ?_ fun v14 h14=> ?_
 ·refine Tot.ite (fun _=> ?_) (fun _=>Tot.next ⟨h9c,fun e=>by cases e⟩);refine Tot.bindEq (kinds_tot (by omega)) ?_
  refine Tot.bind (random_tot hb h9c hd.ok (by rw[List.length_map];omega)) fun r hr=> ?_
  obtain⟨⟨hr1,_⟩,hr2⟩:=hr;refine Tot.next ⟨hr2,fun e=> ?_⟩;have e:=of_decide_eq_true e;rcases hr1 with q | q
  ·rw[q]at e;have:o.1=[]:=List.length_eq_zero_iff.1 (by simp at e;omega);rw[this];exact fit_nil _
  ·exact q.fit hd.ok
 obtain⟨hc14,hf14⟩:=h14;refine Tot.ite (fun e=>Tot.exit (Tot.ret ⟨hd,hN,ho,h2,hf14 e,hc14⟩)) (fun _=> ?_);rw[wrap_ok (z:=i+1) (by omega)];exact Tot.next ⟨⟨⟨by simp only;omega,by simp only;omega⟩,hc14⟩,by simp only;omega⟩
structure PD (d:Dev)(ks:List Int)(cs:List Conn)(ps:List Int):Prop where
 dev:DOk d
 pl:Pl d ks ps
 len:ks.length<=64
 cns:cnsP (ks.length:Int) cs=true
theorem PD.place {d:Dev}{ks:List Int}{cs:List Conn}{ps:List Int}(h:PD d ks cs ps):placeP d ks ps=true:=h.pl.place h.dev h.len
theorem count3_le (ks:List Int):ks.count 3<=(ks.map bt).count 1:=by
 induction ks with
 | nil=>simp
 | cons k ks ih=>
  rw[List.map_cons,List.count_cons,List.count_cons];by_cases h:k=3
  ·subst h;have:bt 3=1:=by simp[bt]
   simp[this,ih]
  ·simp[h];omega
theorem drawn_tot {b:List Int}{c:Cur}(hb:CdOk b)(hc:CurOk b c):Tot (spec_l29Drawn (b,c)) (fun r=>PD r.1 r.2.1 r.2.2.1 r.2.2.2.1/\CurOk b r.2.2.2.2):=by
 unfold spec_l29Drawn;dsimp only;refine Tot.once hb hc fun x1 c1 k1=> ?_
 dsimp only;refine Tot.ite (fun _=> ?_) (fun _=> ?_)
 ·refine Tot.bind (task_tot hb k1) fun v2 h2=> ?_
  obtain⟨hd,hN,hl,hB,hf,hcu⟩:=h2;refine Tot.bindEq (kinds_tot (by omega)) ?_
  refine Tot.bindEq (conns_spec _ _ hN ⟨by omega,fun x hx=>by have:=hB x hx;unfold BkB;omega⟩) ?_
  refine Tot.bind (random_tot hb hcu hd.ok (by rw[List.length_map];omega)) fun r hr=> ?_
  obtain⟨⟨_,hr1⟩,hr2⟩:=hr;have hp:=hr1 hf;have h36:=hp.le36 hd.ok;have hlen:=hp.len;rw[List.length_map]at hlen;have hA:v2.1.1*v2.1.2.1<=5*5:=Int.mul_le_mul (by rcases hd.1 with q | q<;>omega) (by rcases hd.2.1 with q | q<;>omega) (by rcases hd.2.1 with q | q<;>omega) (by omega);have h3:=count3_le (v2.2.2.1.map (·.1));have hf1:=hf 1;have h20:=tiles20 hd;refine Tot.ret ⟨⟨hd.ok,hp,by rw[List.length_map];omega,?_⟩,hr2⟩;rw[List.length_map];exact connsP_cns (by omega) (Nat.le_trans (count3_le _) (Nat.le_trans (hf 1) (tiles20 hd)))
 refine Tot.bind (device_tot hb k1) fun v2 h2=> ?_
 obtain⟨hd,hc2⟩:=h2;refine Tot.below hb hc2 fun x3 c3 k3 _ q3=> ?_
 have q3:=q3 (by omega);rw[wrap_ok (z:=1+x3) (by omega)];refine Tot.lp (fun s=>(0<=s.1/\s.1+(s.2.2.2.length:Int)=1+x3)/\CurOk b (s.2.1,s.2.2.1)) (fun s=>s.1.toNat) ⟨⟨by simp only;omega,by simp⟩,k3⟩ (fun s hs=> ?_);obtain⟨i,p1,p2,ks⟩:=s;obtain⟨⟨i0,i1⟩,hcu⟩:=hs;simp only at i0 i1 hcu;dsimp only;refine Tot.dite (fun h1=> ?_) (fun h1=>Tot.exit ?_)
 ·refine Tot.pick hb hcu (by simp) fun x c' hc' _=> ?_
  refine Tot.app (by simp only[List.length_cons,List.length_nil];omega) (by omega) ?_
  rw[wrap_ok (z:=i - 1) (by omega)];exact Tot.next ⟨⟨⟨by simp only;omega,by simp only[List.length_append,List.length_cons,List.length_nil];omega⟩,hc'⟩,by simp only;omega⟩
 refine Tot.join (A:=fun ks' :List Int=>1<=ks'.length/\ks'.length<=5) ?_ fun ks1 hk1=> ?_
 ·refine Tot.bindEq (tiles_spec _ _) ?_
  exact Tot.dite (fun _=>Tot.next ⟨by simp,by simp⟩) (fun _=>Tot.next ⟨by omega,by omega⟩)
 refine Tot.bind (random_tot hb hcu hd (by omega)) fun r hr=> ?_
 obtain⟨⟨hr1,_⟩,hr2⟩:=hr;refine Tot.join (A:=fun v=>CurOk b (v.1,v.2.1)/\Pl v2.1 v.2.2.1 v.2.2.2/\1<=v.2.2.1.length/\v.2.2.1.length<=5) ?_ fun v9 h9=> ?_
 ·refine Tot.dite (fun _=> ?_) (fun h0=>Tot.next ⟨hr2,?_,hk1⟩)
  ·refine Tot.bind (random_tot hb hr2 hd (by simp)) fun r2 hq2=> ?_
   obtain⟨⟨_,hq⟩,hq3⟩:=hq2;exact Tot.next ⟨hq3,hq (fit01 hd),by simp,by simp⟩
  ·rcases hr1 with q | q
   ·rw[q]at h0;simp at h0
   ·exact q
 obtain⟨w1,w2,kk,ps⟩:=v9;obtain⟨hc9,hpl,l1,l5⟩:=h9;simp only at hc9 hpl l1 l5;dsimp only;refine Tot.below hb hc9 fun x10 c10 k10 _ q10=> ?_
 have q10:=q10 (by omega);have pin:∀{x y:Int},0<=x->x<(kk.length:Int)->0<=y->y<5->pinP (kk.length:Int) (x,y):=fun a b c e=>⟨⟨a,b⟩,c,by simp only;omega⟩
 refine Tot.lp (fun s=>(0<=s.1/\s.1+(s.2.2.2.length:Int)<=5)/\CurOk b (s.2.1,s.2.2.1)/\∀q∈s.2.2.2,cnP (kk.length:Int) q=true) (fun s=>s.1.toNat) ⟨⟨by simp only;omega,by simp;omega⟩,k10,fun q hq=>by cases hq⟩ (fun s hs=> ?_);obtain⟨i2,p3,p4,cs⟩:=s;obtain⟨⟨i20,i21⟩,hcu2,hcs⟩:=hs;simp only at i20 i21 hcu2 hcs;dsimp only;refine Tot.dite (fun h2=> ?_) (fun h2=>Tot.exit (Tot.ret ⟨⟨hd,hpl,by simp only;omega,?_⟩,hcu2⟩))
 rotate_left
 ·show cnsP (kk.length:Int) cs=true;unfold cnsP;rw[dt ⟨⟨by omega,by omega⟩,by omega⟩,Bool.true_and,List.all_eq_true];exact hcs
 refine Tot.below hb hcu2 fun x14 c14 k14 _ q14=> ?_
 have q14:=q14 (by omega);refine Tot.below hb k14 fun x15 c15 k15 _ q15=> ?_
 have q15:=q15 (by omega);refine Tot.below hb k15 fun x16 c16 k16 _ q16=> ?_
 have q16:=q16 (by omega);refine Tot.lp (fun s=>(-1<=s.1/\s.1+(s.2.2.2.length:Int)=x16)/\CurOk b (s.2.1,s.2.2.1)/\∀q∈s.2.2.2,pinP (kk.length:Int) q) (fun s=>(s.1+1).toNat) ⟨⟨by simp only;omega,by simp⟩,k16,fun q hq=>by cases hq⟩ (fun s hs=> ?_);obtain⟨i3,p5,p6,sk⟩:=s;obtain⟨⟨i30,i31⟩,hcu3,hsk⟩:=hs;simp only at i30 i31 hcu3 hsk;dsimp only;refine Tot.dite (fun h3=> ?_) (fun h3=>Tot.exit ?_)
 ·refine Tot.below hb hcu3 fun x20 c20 k20 _ q20=> ?_
  have q20:=q20 (by omega);refine Tot.below hb k20 fun x21 c21 k21 _ q21=> ?_
  have q21:=q21 (by omega);refine Tot.app (by simp only[List.length_cons,List.length_nil];omega) (by omega) ?_
  rw[wrap_ok (z:=i3 - 1) (by omega)];refine Tot.next ⟨⟨⟨by simp only;omega,by simp only[List.length_append,List.length_cons,List.length_nil];omega⟩,k21,fun q hq=> ?_⟩,by simp only;omega⟩;rcases List.mem_append.1 hq with e | e
  ·exact hsk q e
  ·rw[List.mem_singleton]at e;rw[e]
   exact pin q20.1 q20.2 q21.1 q21.2
 ·refine Tot.app (by simp only[List.length_cons,List.length_nil];omega) (by omega) ?_
  rw[wrap_ok (z:=i2 - 1) (by omega)];refine Tot.next ⟨⟨⟨by simp only;omega,by simp only[List.length_append,List.length_cons,List.length_nil];omega⟩,hcu3,fun q hq=> ?_⟩,by simp only;omega⟩;rcases List.mem_append.1 hq with e | e
  ·exact hcs q e
  ·rw[List.mem_singleton]at e;rw[e]
   unfold cnP;rw[dt ⟨⟨by simp only;omega,by simp only;omega⟩,pin q14.1 q14.2 q15.1 (by omega)⟩,Bool.true_and,List.all_eq_true];exact fun p hp=>decide_eq_true (hsk p hp)
theorem placed_tot {b:List Int}(hb:CdOk b):Tot (spec_DrawPlaced b) (fun r=>PD r.1 r.2.1 r.2.2.1 r.2.2.2):=by
 unfold spec_DrawPlaced;obtain⟨c,e,hc⟩:=new_ok hb;refine Tot.bindEq e ?_
 refine Tot.bind (drawn_tot hb hc) fun v hv=> ?_
 exact Tot.ret hv.1
theorem PD.pin {d:Dev}{ks:List Int}{cs:List Conn}{ps:List Int}(h:PD d ks cs ps){p:Pin}(hp:pinP (ks.length:Int) p):pinIn d ps p:=by
 have hl:=h.pl.len;have h1:=hp.1;refine⟨by omega,h.pl.ge _ ?_⟩;unfold psV;exact getD_mem (by omega)
theorem PD.tile {d:Dev}{ks:List Int}{cs:List Conn}{ps:List Int}(h:PD d ks cs ps):∀p∈ps,0<=p/\p<=36:=fun p hp=>by
 have h1:=tk_lt' (h.pl.ge p hp);have hm:=mul_le36 h.dev.1 h.dev.2.1;omega
end Go.Pf
/-
  Own work. Cheapest distances: the reference's passes and the program's queue both find them.
-/
namespace Go.Pf
open Go Go.Pu
set_option linter.unusedVariables false
theorem gAt_get {G:List (List Int)}{v:Nat}(h:v<G.length):gget ([]:List Int) G (v:Int)=some (gAt G v):=by
 rw[gget_nat h];unfold gAt
 rw[List.getD,List.getElem?_eq_getElem h];rfl
theorem relax_keep {D:List Int}{ss:List Int}{v:Nat}{x:Int}(h:St0 ss D)(hv:v<D.length)(hx:0<=x)(hlt:nsAt D v<0\/x<nsAt D v):St0 ss (D.set v x):=by
 intro s hs;rw[nsAt_set _ _ hv];have:=h s hs;split
 ·rename_i e;rw[e]at this;omega
 ·exact this
theorem dist_spec {N:Nat}{G:List (List Int)}{cs ss:List Int}(hG:GrOk N G)(hc:CsOk N cs)(hs:∀s∈ss,0<=s/\s<(N:Int))(hsl:ss.length<=1048576):∃D,spec_l33Distances (G,(cs,ss))=some D/\IsDist N G cs ss D:=by
 have hN:=hG.2.1;have hGl:=hG.1;unfold spec_l33Distances;refine loop_uptoE N (fun k=>((k:Int),List.replicate k (-1))) _ (fun k hk=> ?_) ?_
 ·try dsimp only
  rw[dt (show(k:Int)<(G.length:Int)by omega),cond_true,gapp_ok (by simp;omega)];simp only[Option.bind_some];rw[wrap_ok (by omega),<-List.replicate_succ'];rfl
 try dsimp only
 rw[df (show ¬(N:Int)<(G.length:Int)by omega),cond_false];refine mapE ?_
 refine loop_spec (fun s:Int×List Int=>(0<=s.1/\s.1<=ss.length)/\DInv N G cs ss s.2/\∀j:Nat,(j:Int)<s.1->nsAt s.2 (nsAt ss j).toNat=0) _ (fun s=>(ss.length - s.1).toNat) (fun s hI=> ?_) (0,List.replicate N (-1)) ⟨⟨by simp,by simp⟩,dInit N G cs ss,fun j hj=>by simp only at hj;omega⟩;obtain⟨i,D⟩:=s;obtain⟨⟨i0,i1⟩,hD,hz⟩:=hI;simp only at i0 i1 hD hz;have hDl:=hD.1
 try dsimp only
 by_cases hi:i<(ss.length:Int)
 ·left
  obtain⟨n,rfl⟩:∃n:Nat,i=(n:Int):=⟨i.toNat,by omega⟩;have hn:n<ss.length:=by omega
  have hmem:nsAt ss n∈ss:=by rw[<-ns_at hn];exact List.getElem_mem hn
  have hsn:=hs _ hmem;obtain⟨v,hv⟩:∃v:Nat,nsAt ss n=(v:Int):=⟨(nsAt ss n).toNat,by omega⟩;rw[dt hi,cond_true,nsAt_get hn];simp only[Option.bind_some];rw[hv,gin_nat (by omega),gget_nat (show v<D.length by omega)];simp only[Option.bind_some];rw[gset_nat,wrap_ok (z:=(n:Int)+1) (by omega)];refine⟨_,rfl,⟨⟨by simp only;omega,by simp only;omega⟩,(setStart hG hD (by omega) (by rw[<-hv];exact hmem)).1,fun j hj=> ?_⟩,by simp only;omega⟩;simp only at hj ⊢;rw[nsAt_set _ _ (by omega)];split
  ·rfl
  ·rename_i hne;by_cases e:j=n
   ·subst e;rw[hv]at hne;exact absurd (Int.toNat_natCast v) hne
   ·exact hz j (by omega)
 ·right
  rw[df hi,cond_false];refine mapE ?_
  have h0:St0 ss D:=by
   intro s hsm;obtain⟨k,hk,e⟩:=nsAt_mem hsm;rw[<-e];exact hz k (by omega)
  clear hz
  refine loop_spec (fun s:Bool×List Int=>DInv N G cs ss s.2/\St0 ss s.2/\(s.1=false->∀u v:Nat,u<N->v<N->(u:Int)∈gAt G v->0<=nsAt s.2 u->Sat cs s.2 u v)) _ (fun s=>2*pot s.2+(if s.1=true then 1 else 0)) (fun s hI=> ?_) (true,D) ⟨hD,h0,fun e=>by simp at e⟩
  clear hD h0 hDl D
  obtain⟨fl,D⟩:=s;obtain⟨hD,h0,hsat⟩:=hI;simp only at hD h0 hsat
  try dsimp only
  cases fl with
  | false=>
   right
   exact⟨D,rfl,hD,h0,hsat rfl⟩
  | true=>
   left
   rw[cond_true]
   clear hsat
   refine stepE (A:=fun s' :Bool×List Int=>(DInv N G cs ss s'.2/\St0 ss s'.2/\(s'.1=false->∀u v:Nat,u<N->v<N->(u:Int)∈gAt G v->0<=nsAt s'.2 u->Sat cs s'.2 u v))/\2*pot s'.2+(if s'.1=true then 1 else 0)<2*pot D+(if true=true then 1 else 0)) ?_
   refine loop_spec (fun s:Bool×(Int×List Int)=>(0<=s.2.1/\s.2.1<=(N:Int))/\DInv N G cs ss s.2.2/\St0 ss s.2.2/\(s.1=true->pot s.2.2<pot D)/\(s.1=false->s.2.2=D/\∀u v:Nat,u<N->(v:Int)<s.2.1->(u:Int)∈gAt G v->0<=nsAt D u->Sat cs D u v)) _ (fun s=>(N - s.2.1).toNat) (fun s hI=> ?_) (false,(0,D)) ⟨⟨by simp,by simp⟩,hD,h0,fun e=>by simp at e,fun _=>⟨rfl,fun u v hu hv=>by simp only at hv;omega⟩⟩;obtain⟨fl,i,E⟩:=s;obtain⟨⟨i0,i1⟩,hE,hE0,ht,hf⟩:=hI;simp only at i0 i1 hE hE0 ht hf
   try dsimp only
   by_cases hi:i<(G.length:Int)
   rotate_left
   ·right
    rw[df hi,cond_false];refine⟨_,rfl,_,rfl,⟨hE,hE0,fun e=> ?_⟩,?_⟩
    ·obtain⟨e1,e2⟩:=hf e;intro u v hu hv hm g0;simp only at*;rw[e1]at g0 ⊢;exact e2 u v hu (by omega) hm g0
    ·cases fl with
     | true=>have:=ht rfl;simp only;omega
     | false=>have:=(hf rfl).1;simp only;rw[this];simp
   ·left
    obtain⟨v,rfl⟩:∃v:Nat,i=(v:Int):=⟨i.toNat,by omega⟩;have hv:v<N:=by omega
    rw[dt hi,cond_true];refine stepE (A:=fun s' :Bool×(Int×List Int)=>((0<=s'.2.1/\s'.2.1<=(N:Int))/\DInv N G cs ss s'.2.2/\St0 ss s'.2.2/\(s'.1=true->pot s'.2.2<pot D)/\(s'.1=false->s'.2.2=D/\∀u v:Nat,u<N->(v:Int)<s'.2.1->(u:Int)∈gAt G v->0<=nsAt D u->Sat cs D u v))/\(N - s'.2.1).toNat<(N - (v:Int)).toNat) ?_
    have hgv:=hG.2.2 v hv;refine loop_spec (fun s:Bool×(Int×List Int)=>(0<=s.2.1/\s.2.1<=((gAt G v).length:Int))/\DInv N G cs ss s.2.2/\St0 ss s.2.2/\(s.1=true->pot s.2.2<pot D)/\(s.1=false->s.2.2=D/\(∀u w:Nat,u<N->(w:Int)<(v:Int)->(u:Int)∈gAt G w->0<=nsAt D u->Sat cs D u w)/\∀j:Nat,(j:Int)<s.2.1->0<=nsAt D (nsAt (gAt G v) j).toNat->Sat cs D (nsAt (gAt G v) j).toNat v)) _ (fun s=>((gAt G v).length - s.2.1).toNat) (fun s hI=> ?_) (fl,(0,E)) ⟨⟨by simp,by simp⟩,hE,hE0,ht,fun e=>⟨(hf e).1,(hf e).2,fun j hj=>by simp only at hj;omega⟩⟩
    clear ht hf hE hE0
    clear E fl
    obtain⟨fl,j,E⟩:=s;obtain⟨⟨j0,j1⟩,hE,hE0,ht,hf⟩:=hI;simp only at j0 j1 hE hE0 ht hf;have hEl:=hE.1
    try dsimp only
    rw[gAt_get (by omega)];simp only[Option.bind_some];by_cases hj:j<((gAt G v).length:Int)
    rotate_left
    ·right
     rw[df hj,cond_false,wrap_ok (z:=(v:Int)+1) (by omega)];refine⟨_,rfl,_,rfl,⟨⟨by simp only;omega,by simp only;omega⟩,hE,hE0,ht,fun e=> ?_⟩,by simp only;omega⟩;obtain⟨e1,e2,e3⟩:=hf e;refine⟨e1,fun u w hu hw hm g0=> ?_⟩;simp only at hw;by_cases q:w=v
     ·subst q;obtain⟨k,hk,ek⟩:=nsAt_mem hm;have:=e3 k (by omega);rw[ek,Int.toNat_natCast]at this;exact this g0
     ·exact e2 u w hu (by omega) hm g0
    ·left
     obtain⟨n,rfl⟩:∃n:Nat,j=(n:Int):=⟨j.toNat,by omega⟩;have hn:n<(gAt G v).length:=by omega
     have hmem:nsAt (gAt G v) n∈gAt G v:=by rw[<-ns_at hn];exact List.getElem_mem hn
     have hun:=hgv.2 _ hmem;obtain⟨u,hu⟩:∃u:Nat,nsAt (gAt G v) n=(u:Int):=⟨(nsAt (gAt G v) n).toNat,by omega⟩;rw[hu]at hmem;rw[dt hj,cond_true,nsAt_get hn];simp only[Option.bind_some];have hbu:=hE.bound hG (v:=u) (by omega);have hbv:=hE.bound hG hv;have hcv:=hc.2 v hv;have hcl:=hc.1;rw[hu,gin_nat (by omega),nsAt_get (show u<E.length by omega),gin_nat (show v<E.length by omega),nsAt_get (show v<E.length by omega),nsAt_get (show v<cs.length by omega),wrap_ok (z:=(n:Int)+1) (by omega)];simp only[Option.bind_some];rw[wrap_ok (z:=nsAt E u+nsAt cs v) (by omega),gset_nat];have quiet:(0<=nsAt E u->Sat cs E u v)->(fl=false->E=D/\(∀u w:Nat,u<N->(w:Int)<(v:Int)->(u:Int)∈gAt G w->0<=nsAt D u->Sat cs D u w)/\∀j:Nat,(j:Int)<(n:Int)+1->0<=nsAt D (nsAt (gAt G v) j).toNat->Sat cs D (nsAt (gAt G v) j).toNat v):=by
      intro hq e;obtain⟨e1,e2,e3⟩:=hf e;refine⟨e1,e2,fun j hj g0=> ?_⟩;by_cases q:j=n
      ·subst q;rw[hu,Int.toNat_natCast]at g0 ⊢;rw[<-e1]at g0 ⊢;exact hq g0
      ·exact e3 j (by omega) g0
     by_cases g1:0<=nsAt E u
     rotate_left
     ·rw[df g1,cond_false];exact⟨_,rfl,⟨⟨by simp only;omega,by simp only;omega⟩,hE,hE0,ht,quiet (fun e=>absurd e g1)⟩,by simp only;omega⟩
     rw[dt g1,cond_true];have act:(nsAt E v<0\/nsAt E u+nsAt cs v<nsAt E v)->DInv N G cs ss (E.set v (nsAt E u+nsAt cs v))/\St0 ss (E.set v (nsAt E u+nsAt cs v))/\pot (E.set v (nsAt E u+nsAt cs v))<pot D:=by
      intro hlt;have r:=relax hG hc hE (show u<N by omega) hv hmem g1 hlt;refine⟨r.1,relax_keep hE0 (by omega) (by omega) hlt,?_⟩;cases fl with
      | true=>have:=ht rfl;omega
      | false=>have:=(hf rfl).1;rw[this]at r ⊢;exact r.2.1
     by_cases g2:nsAt E v<0
     ·rw[dt g2,cond_true];obtain⟨a1,a2,a3⟩:=act (Or.inl g2);exact⟨_,rfl,⟨⟨by simp only;omega,by simp only;omega⟩,a1,a2,fun _=>a3,fun e=>by simp at e⟩,by simp only;omega⟩
     rw[df g2,cond_false];by_cases g3:nsAt E u+nsAt cs v<nsAt E v
     ·rw[dt g3,cond_true];obtain⟨a1,a2,a3⟩:=act (Or.inr g3);exact⟨_,rfl,⟨⟨by simp only;omega,by simp only;omega⟩,a1,a2,fun _=>a3,fun e=>by simp at e⟩,by simp only;omega⟩
     ·rw[df g3,cond_false];exact⟨_,rfl,⟨⟨by simp only;omega,by simp only;omega⟩,hE,hE0,ht,quiet (fun _=>⟨by omega,by omega⟩)⟩,by simp only;omega⟩
end Go.Pf
/-
  Own work. Cheapest distances: the program's queue; the device's graph, both ways.
-/
namespace Go.Pf
open Go Go.Pu
set_option linter.unusedVariables false
def RevOk (N:Nat)(G R:List (List Int)):Prop:=R.length=N/\∀u,u<N->(gAt R u).length<=1000000/\(∀x∈gAt R u,0<=x/\x<(N:Int))/\∀v:Nat,v<N->((v:Int)∈gAt R u↔(u:Int)∈gAt G v)
def QInv (N:Nat)(G:List (List Int))(cs ss D:List Int)(Q:List Qe)(P:Nat->Nat->Prop):Prop:=
 DInv N G cs ss D/\St0 ss D/\Q.length+pot D<=82800001*828/\
 (∀e∈Q,(0<=e.2/\e.2<(N:Int))/\0<=nsAt D e.2.toNat/\nsAt D e.2.toNat<=e.1)/\
 (∀u v:Nat,u<N->v<N->(u:Int)∈gAt G v->0<=nsAt D u->Sat cs D u v\/(nsAt D u,(u:Int))∈Q\/P u v)
theorem dist_impl {N:Nat}{G R:List (List Int)}{cs ss:List Int}(hG:GrOk N G)(hR:RevOk N G R)(hc:CsOk N cs)(hs:∀s∈ss,0<=s/\s<(N:Int))(hsl:ss.length<=1048576):∃D,impl_distances ((G,R),(cs,ss))=some D/\IsDist N G cs ss D:=by
 have hN:=hG.2.1;have hGl:=hG.1;have hcl:=hc.1;unfold impl_distances
 try dsimp only
 rw[hcl,gmake_nat (by omega) (by omega)];simp only[Option.bind_some,List.length_replicate];have e0:((0:Int),List.replicate N (0:Int))=(fun k:Nat=>((k:Int),List.replicate k (-1)++List.replicate (N - k) (0:Int))) 0:=by simp
 rw[e0];refine loop_uptoE N (fun k=>((k:Int),List.replicate k (-1)++List.replicate (N - k) (0:Int))) _ (fun k hk=> ?_) ?_
 ·have hl:(List.replicate k (-1)++List.replicate (N - k) (0:Int)).length=N:=by simp;omega
  try dsimp only
  rw[dt (show(k:Int)<(N:Int)by omega),cond_true,hl,gin_nat hk,gget_nat (show k<_ by rw[hl];exact hk)];simp only[Option.bind_some];rw[wrap_ok (by omega),gset_nat,List.set_append_right _ _ (by simp)];have e1:k - (List.replicate k (-1:Int)).length=0:=by simp
  obtain⟨m,hm⟩:∃m,N - k=m+1:=⟨N - k - 1,by omega⟩;have e2:N - (k+1)=m:=by omega
  rw[e1,hm,List.replicate_succ,List.set_cons_zero,e2];have e3:List.replicate k (-1:Int)++ -1::List.replicate m 0=List.replicate (k+1) (-1)++List.replicate m 0:=by
   rw[List.replicate_succ'];simp
  rw[e3];rfl
 try dsimp only
 rw[df (show ¬(N:Int)<(N:Int)by omega),cond_false];have eN:List.replicate N (-1:Int)++List.replicate (N - N) (0:Int)=List.replicate N (-1):=by simp
 rw[eN];refine mapE ?_
 have hD0:=dInit N G cs ss;have hpot0:=pot_le hG hD0;refine loop_spec (fun s:List Qe×(Int×List Int)=>(0<=s.2.1/\s.2.1<=ss.length)/\DInv N G cs ss s.2.2/\(∀j:Nat,(j:Int)<s.2.1->nsAt s.2.2 (nsAt ss j).toNat=0)/\s.1.length+pot s.2.2<=82800001*828/\(∀e∈s.1,(0<=e.2/\e.2<(N:Int))/\0<=nsAt s.2.2 e.2.toNat/\nsAt s.2.2 e.2.toNat<=e.1)/\(∀u:Nat,u<N->0<=nsAt s.2.2 u->(nsAt s.2.2 u,(u:Int))∈s.1)) _ (fun s=>(ss.length - s.2.1).toNat) (fun s hI=> ?_) (([]:List Qe),(0,List.replicate N (-1))) ⟨⟨by simp,by simp⟩,hD0,fun j hj=>by simp only at hj;omega,by simpa using hpot0,fun e he=>by simp at he,fun u hu h0=>by simp only at h0;rw[nsAt_rep _ _ hu]at h0;omega⟩;obtain⟨Q,i,D⟩:=s;obtain⟨⟨i0,i1⟩,hD,hz,hQ,hQe,hall⟩:=hI;simp only at i0 i1 hD hz hQ hQe hall;have hDl:=hD.1
 try dsimp only
 by_cases hi:i<(ss.length:Int)
 ·left
  obtain⟨n,rfl⟩:∃n:Nat,i=(n:Int):=⟨i.toNat,by omega⟩;have hn:n<ss.length:=by omega
  have hmem:nsAt ss n∈ss:=by rw[<-ns_at hn];exact List.getElem_mem hn
  have hsn:=hs _ hmem;obtain⟨v,hv⟩:∃v:Nat,nsAt ss n=(v:Int):=⟨(nsAt ss n).toNat,by omega⟩;have hvN:v<N:=by omega
  rw[dt hi,cond_true,nsAt_get hn];simp only[Option.bind_some];rw[hv,gin_nat (by omega),nsAt_get (show v<D.length by omega)];simp only[Option.bind_some];rw[wrap_ok (z:=(n:Int)+1) (by omega)];by_cases g:nsAt D v≠0
  ·rw[dt g,cond_true,gset_nat];have st:=setStart hG hD hvN (by rw[<-hv];exact hmem);have st3:=st.2.2 g;have bv:=hD.bound hG hvN;obtain⟨q',e1,e2⟩:=push_ok Q (0,(v:Int)) (by omega);have hql:=e2.length_eq;simp only[List.length_cons]at hql;rw[e1];simp only[Option.bind_some];refine⟨_,rfl,⟨⟨by simp only;omega,by simp only;omega⟩,st.1,fun j hj=> ?_,by simp only;omega,fun e he=> ?_,fun u hu h0=> ?_⟩,by simp only;omega⟩
   ·simp only at hj ⊢;rw[nsAt_set _ _ (by omega)];split
    ·rfl
    ·rename_i hne;by_cases e:j=n
     ·subst e;rw[hv]at hne;exact absurd (Int.toNat_natCast v) hne
     ·exact hz j (by omega)
   ·simp only at he ⊢;rw[nsAt_set _ _ (by omega)];rcases List.mem_cons.1 (e2.mem_iff.1 he)with e4 | e4
    ·subst e4;refine⟨⟨by simp only;omega,by simp only;omega⟩,?_⟩;split
     ·simp
     ·rename_i hne;exact absurd (Int.toNat_natCast v) hne
    ·have:=hQe _ e4;refine⟨this.1,?_⟩;split
     ·rename_i hq;rw[hq]at this;omega
     ·exact this.2
   ·simp only at h0 ⊢;rw[nsAt_set _ _ (by omega)]at h0 ⊢;split
    ·rename_i hq;subst hq;exact e2.mem_iff.2 (by simp)
    ·rename_i hq;rw[if_neg hq]at h0;exact e2.mem_iff.2 (List.mem_cons_of_mem _ (hall u hu h0))
  ·rw[df g,cond_false];refine⟨_,rfl,⟨⟨by simp only;omega,by simp only;omega⟩,hD,fun j hj=> ?_,hQ,hQe,hall⟩,by simp only;omega⟩;simp only at hj ⊢;by_cases e:j=n
   ·subst e;rw[hv,Int.toNat_natCast];omega
   ·exact hz j (by omega)
 right
 rw[df hi,cond_false];refine mapE ?_
 have h0:St0 ss D:=by
  intro s hsm;obtain⟨k,hk,e⟩:=nsAt_mem hsm;rw[<-e];exact hz k (by omega)
 refine loop_spec (fun s:List Qe×List Int=>QInv N G cs ss s.2 s.1 (fun _ _=>False)) _ (fun s=>2*pot s.2+s.1.length) (fun s hI=> ?_) (Q,D) ⟨hD,h0,hQ,hQe,fun u v hu hv hm g0=>Or.inr (Or.inl (hall u hu g0))⟩
 clear hall hQe hQ hz hDl hD h0 i0 i1 hi
 clear D i Q
 obtain⟨Q,D⟩:=s;obtain⟨hD,h0,hQ,hQe,hed⟩:=hI;simp only at hD h0 hQ hQe hed;have hDl:=hD.1
 try dsimp only
 by_cases hq0:0<(Q.length:Int)
 rotate_left
 ·right
  rw[df hq0,cond_false];refine⟨D,rfl,hD,h0,fun u v hu hv hm g0=> ?_⟩;have:Q=[]:=List.length_eq_zero_iff.1 (by omega);rcases hed u v hu hv hm g0 with e | e | e
  ·exact e
  ·rw[this]at e;simp at e
  ·exact absurd e (fun e=>e)
 left
 rw[dt hq0,cond_true];obtain⟨⟨Q',x,nI⟩,e1,e2⟩:=pop_ok Q (by intro e;rw[e]at hq0;simp at hq0) (by omega);rw[e1];simp only[Option.bind_some]at e2 ⊢;have hql:=e2.length_eq;simp only[List.length_cons]at hql;have htop:=hQe (x,nI) (e2.mem_iff.1 (by simp));simp only at htop;obtain⟨n,rfl⟩:∃n:Nat,nI=(n:Int):=⟨nI.toNat,by omega⟩;rw[Int.toNat_natCast]at htop;have hn:n<N:=by omega
 have bn:=hD.bound hG hn;rw[gin_nat (by omega),nsAt_get (show n<D.length by omega)];simp only[Option.bind_some];by_cases g1:nsAt D n<x
 ·rw[dt g1,cond_true];refine⟨_,rfl,⟨hD,h0,by simp only;omega,fun e he=>hQe e (e2.mem_iff.1 (List.mem_cons_of_mem _ he)),fun u v hu hv hm g0=> ?_⟩,by simp only;omega⟩;rcases hed u v hu hv hm g0 with e | e | e
  ·exact Or.inl e
  ·rcases List.mem_cons.1 (e2.mem_iff.2 e)with e3 | e3
   ·simp only[Prod.mk.injEq]at e3;have:u=n:=by omega
    subst this;simp only at g0;omega
   ·exact Or.inr (Or.inl e3)
  ·exact Or.inr (Or.inr e)
 rw[df g1,cond_false];have hx:nsAt D n=x:=by omega
 have hRn:=hR.2 n hn;have hRl:=hR.1;rw[gAt_get (by omega)];simp only[Option.bind_some];refine stepE (A:=fun s' :List Qe×List Int=>QInv N G cs ss s'.2 s'.1 (fun _ _=>False)/\2*pot s'.2+s'.1.length<2*pot D+Q.length) ?_
 refine loop_spec (fun s:Int×(List Int×List Qe)=>(0<=s.1/\s.1<=(gAt R n).length)/\nsAt s.2.1 n=x/\2*pot s.2.1+s.2.2.length<2*pot D+Q.length/\QInv N G cs ss s.2.1 s.2.2 (fun u v=>u=n/\(v:Int)∉(gAt R n).take s.1.toNat)) _ (fun s=>((gAt R n).length - s.1).toNat) (fun s hI=> ?_) (0,(D,Q')) ⟨⟨by simp,by simp⟩,hx,by simp only;omega,hD,h0,by simp only;omega,fun e he=>hQe e (e2.mem_iff.1 (List.mem_cons_of_mem _ he)),fun u v hu hv hm g0=> ?_⟩
 rotate_left
 ·rcases hed u v hu hv hm g0 with e | e | e
  ·exact Or.inl e
  ·rcases List.mem_cons.1 (e2.mem_iff.2 e)with e3 | e3
   ·simp only[Prod.mk.injEq]at e3;have:u=n:=by omega
    exact Or.inr (Or.inr ⟨this,by simp⟩)
   ·exact Or.inr (Or.inl e3)
  ·exact absurd e (fun e=>e)
 obtain⟨j,E,T⟩:=s;obtain⟨⟨j0,j1⟩,hEx,hpot,hE,hE0,hT,hTe,hed2⟩:=hI;simp only at j0 j1 hEx hpot hE hE0 hT hTe hed2;have hEl:=hE.1
 try dsimp only
 by_cases hj:j<((gAt R n).length:Int)
 rotate_left
 ·right
  rw[df hj,cond_false];refine⟨_,rfl,_,rfl,⟨hE,hE0,hT,hTe,fun u v hu hv hm g0=> ?_⟩,hpot⟩;rcases hed2 u v hu hv hm g0 with e | e | ⟨e,e'⟩
  ·exact Or.inl e
  ·exact Or.inr (Or.inl e)
  ·refine absurd ?_ e';rw[List.take_of_length_le (by omega)];subst e;exact(hRn.2.2 v hv).2 hm
 left
 obtain⟨k,rfl⟩:∃k:Nat,j=(k:Int):=⟨j.toNat,by omega⟩;have hk:k<(gAt R n).length:=by omega
 have hmem:nsAt (gAt R n) k∈gAt R n:=by rw[<-ns_at hk];exact List.getElem_mem hk
 have hvr:=hRn.2.1 _ hmem;obtain⟨v,hv⟩:∃v:Nat,nsAt (gAt R n) k=(v:Int):=⟨(nsAt (gAt R n) k).toNat,by omega⟩;rw[hv]at hmem;have hvN:v<N:=by omega
 have hedge:(n:Int)∈gAt G v:=(hRn.2.2 v hvN).1 hmem;have hcv:=hc.2 v hvN;have bv:=hE.bound hG hvN;have hsucc:((k:Int)+1).toNat=k+1:=by omega
 have hkk:((k:Int)).toNat=k:=by omega
 rw[hkk]at hed2;rw[dt hj,cond_true,nsAt_get hk];simp only[Option.bind_some];rw[hv,nsAt_get (show v<cs.length by omega)];simp only[Option.bind_some];rw[gin_nat (by omega),nsAt_get (show v<E.length by omega),wrap_ok (z:=x+nsAt cs v) (by omega),wrap_ok (z:=(k:Int)+1) (by omega)];simp only[Option.bind_some];have act:(nsAt E v<0\/x+nsAt cs v<nsAt E v)->∃T',impl_pushQueue (T,(x+nsAt cs v,(v:Int)))=some T'∧(((0<=(k:Int)+1/\(k:Int)+1<=(gAt R n).length)/\nsAt (E.set v (x+nsAt cs v)) n=x/\2*pot (E.set v (x+nsAt cs v))+T'.length<2*pot D+Q.length/\QInv N G cs ss (E.set v (x+nsAt cs v)) T' (fun u v=>u=n/\(v:Int)∉(gAt R n).take ((k:Int)+1).toNat))/\((gAt R n).length - ((k:Int)+1)).toNat<((gAt R n).length - (k:Int)).toNat):=by
  intro hlt;have r:=relax hG hc hE hn hvN hedge (by omega) (by rw[hEx];exact hlt);rw[hEx]at r;obtain⟨r1,r2,r3⟩:=r;obtain⟨T',p1,p2⟩:=push_ok T (x+nsAt cs v,(v:Int)) (by omega);have hTl:=p2.length_eq;simp only[List.length_cons]at hTl;have hset:=fun w=>nsAt_set (D:=E) (k:=v) (x+nsAt cs v) w (by omega)
  refine⟨T',p1,⟨⟨by omega,by omega⟩,by rw[hset,if_neg r3];exact hEx,by omega,r1,relax_keep hE0 (by omega) (by omega) hlt,by omega,fun e he=> ?_,fun u w hu hw hm g0=> ?_⟩,by omega⟩
  ·rw[hset];rcases List.mem_cons.1 (p2.mem_iff.1 he)with e3 | e3
   ·subst e3;refine⟨⟨by simp only;omega,by simp only;omega⟩,?_⟩;rw[if_pos (Int.toNat_natCast v)];exact⟨by omega,by simp⟩
   ·have:=hTe e e3;refine⟨this.1,?_⟩;split
    ·rename_i hq;rw[hq]at this;omega
    ·exact this.2
  ·rw[hset]at g0;rw[hset];by_cases qu:u=v
   ·subst qu;rw[if_pos rfl];exact Or.inr (Or.inl (p2.mem_iff.2 (by simp)))
   ·rw[if_neg qu]at g0 ⊢;have hw1:Sat cs E u w->Sat cs (E.set v (x+nsAt cs v)) u w:=by
     intro e;unfold Sat at*;rw[hset,hset,if_neg qu];split
     ·rename_i hq;subst hq;omega
     ·exact e
    rcases hed2 u w hu hw hm g0 with e | e | ⟨e,e'⟩
    ·exact Or.inl (hw1 e)
    ·exact Or.inr (Or.inl (p2.mem_iff.2 (List.mem_cons_of_mem _ e)))
    ·by_cases qw:w=v
     ·left
      subst qw e;unfold Sat;rw[hset,hset,if_neg qu,if_pos rfl,hEx];omega
     ·right;right
      refine⟨e,?_⟩;rw[hsucc,take_at hk,hv];intro q;rcases List.mem_append.1 q with q | q
      ·exact e' q
      ·have:=List.mem_singleton.1 q;omega
 by_cases g2:nsAt E v= -1
 ·rw[dt g2,cond_true,gset_nat];obtain⟨T',p1,p2⟩:=act (Or.inl (by omega));rw[p1];exact⟨_,rfl,p2⟩
 rw[df g2,cond_false];by_cases g3:x+nsAt cs v<nsAt E v
 ·rw[dt g3,cond_true,gset_nat];obtain⟨T',p1,p2⟩:=act (Or.inr g3);rw[p1];exact⟨_,rfl,p2⟩
 rw[df g3,cond_false];refine⟨_,rfl,⟨⟨by simp only;omega,by simp only;omega⟩,hEx,hpot,hE,hE0,hT,hTe,fun u w hu hw hm g0=> ?_⟩,by simp only;omega⟩;rcases hed2 u w hu hw hm g0 with e | e | ⟨e,e'⟩
 ·exact Or.inl e
 ·exact Or.inr (Or.inl e)
 ·by_cases qw:w=v
  ·left
   simp only;rw[qw,e];exact⟨by omega,by rw[hEx];omega⟩
  ·right;right
   refine⟨e,?_⟩;simp only;rw[hsucc,take_at hk,hv];intro q;rcases List.mem_append.1 q with q | q
   ·exact e' q
   ·have:=List.mem_singleton.1 q;omega
theorem srcs_range {d:Dev}{n x:Int}(h:x∈srcsP d n):0<=x/\x<nodesN d:=by
 have hr:=srcs_rn h;have hd:=hr.1;have hT:=hd.2.2.1;have hp:=per_le hd;obtain⟨⟨ht0,ht1⟩,_,_⟩:=node_tp hd hr.2.1 hr.2.2.1;unfold srcsP at h;split at h
 rotate_left
 ·simp at h
 rcases mem_insL.1 h with h | h
 ·simp at h
 unfold rawN at h;rcases List.mem_append.1 h with h | h
 ·have hw:=(wn_le (s:=nTile d n) (dir:=0) (trk:=0) hd ht1 (by omega) (by omega) ht0);unfold s0P at h;split at h
  ·have:x=nTile d n*per d+5\/x=nTile d n*per d+6:=by
    unfold outsP at h;split at h<;>simp at h<;>omega
   omega
  ·simp at h
 ·obtain⟨dir,q0,h⟩:=mem_fm.1 h;obtain⟨t2,q2,h⟩:=mem_fm.1 h;obtain⟨i2,h⟩:=mem_candP h;exact(oneP_dec hd q0 (by omega) h).2.2.2.2.2
def dG (d:Dev):List (List Int):=(List.range (nodesN d).toNat).map fun(v:Nat)=>srcsP d (v:Int)
theorem dG_len (d:Dev):(dG d).length=(nodesN d).toNat:=by simp[dG]
theorem dG_at (d:Dev){v:Nat}(h:v<(nodesN d).toNat):gAt (dG d) v=srcsP d (v:Int):=by
 unfold gAt dG;rw[List.getD,List.getElem?_map,List.getElem?_range h];rfl
theorem dG_ok {d:Dev}(h:DOk d):GrOk (nodesN d).toNat (dG d):=by
 have hn:=nodesN_le h;refine⟨dG_len d,by omega,fun v hv=> ?_⟩;rw[dG_at d hv];refine⟨Nat.le_trans (srcsP_len d _) (by decide),fun x hx=> ?_⟩;have:=srcs_range hx;omega
theorem map_range_succ (f:Nat->List Int)(n:Nat):(List.range (n+1)).map f=(List.range n).map f++[f n]:=by
 rw[List.range_succ,List.map_append];rfl
theorem graph_spec {d:Dev}(h:DOk d):spec_l33Graph d=some (dG d):=by
 have hn:=nodesN_le h;unfold spec_l33Graph dG;refine loop_upto (nodesN d).toNat (fun k=>((k:Int),(List.range k).map fun(v:Nat)=>srcsP d (v:Int))) (fun k hk=> ?_) ?_
 ·try dsimp only
  rw[routeNodes_spec,if_pos h];simp only[Option.bind_some];rw[dt (show(k:Int)<nodesN d by omega),cond_true,srcs_spec];simp only[Option.bind_some];rw[gapp_some (by simp;omega) (by simp;omega)];simp only[Option.bind_some];rw[wrap_ok (by omega),map_range_succ];rfl
 ·try dsimp only
  rw[routeNodes_spec,if_pos h];simp only[Option.bind_some];rw[df (by omega),cond_false];rfl
theorem allSources_impl {d:Dev}(h:DOk d):impl_allSources d=some (dG d):=by
 have hn:=nodesN_le h;unfold impl_allSources;rw[routeNodes_impl h];simp only[Option.bind_some];obtain⟨N,hN⟩:∃N:Nat,nodesN d=(N:Int):=⟨(nodesN d).toNat,by omega⟩;rw[hN,gmake_nat (by omega) (by omega)];simp only[Option.bind_some,List.length_replicate];have hdG:dG d=(List.range N).map fun(v:Nat)=>srcsP d (v:Int):=by unfold dG;rw[hN];rfl
 rw[hdG];have e0:((0:Int),List.replicate N ([]:List Int))=(fun k:Nat=>((k:Int),((List.range k).map fun(v:Nat)=>srcsP d (v:Int))++List.replicate (N - k) [])) 0:=by simp
 rw[e0];refine loop_upto N (fun k=>((k:Int),((List.range k).map fun(v:Nat)=>srcsP d (v:Int))++List.replicate (N - k) [])) (fun k hk=> ?_) ?_
 ·have hl:(((List.range k).map fun(v:Nat)=>srcsP d (v:Int))++List.replicate (N - k) ([]:List Int)).length=N:=by simp;omega
  try dsimp only
  rw[dt (show(k:Int)<(N:Int)by omega),cond_true,srcs_impl];simp only[Option.bind_some];rw[hl,gin_nat hk,gget_nat (show k<_ by rw[hl];exact hk)];simp only[Option.bind_some];rw[wrap_ok (by omega),gset_nat,List.set_append_right _ _ (by simp)];have e1:k - ((List.range k).map fun(v:Nat)=>srcsP d (v:Int)).length=0:=by simp
  obtain⟨m,hm⟩:∃m,N - k=m+1:=⟨N - k - 1,by omega⟩;have e2:N - (k+1)=m:=by omega
  rw[e1,hm,List.replicate_succ,List.set_cons_zero,e2,map_range_succ];simp
 ·try dsimp only
  rw[df (show ¬(N:Int)<(N:Int)by omega),cond_false];simp
theorem gAt_set {R:List (List Int)}{k:Nat}(x:List Int)(j:Nat)(h:k<R.length):gAt (R.set k x) j=if j=k then x else gAt R j:=by
 unfold gAt;rw[List.getD_eq_getElem?_getD,List.getD_eq_getElem?_getD];by_cases e:j=k
 ·rw[if_pos e,e,List.getElem?_set_self h];rfl
 ·rw[if_neg e,List.getElem?_set_ne (by omega)]
theorem graph_impl {d:Dev}(h:DOk d):∃R,impl_graphOf d=some (dG d,R)/\RevOk (nodesN d).toNat (dG d) R:=by
 have hn:=nodesN_le h;unfold impl_graphOf;rw[allSources_impl h,routeNodes_impl h];simp only[Option.bind_some];have hGr:=dG_ok h;have hGl:=dG_len d;have hat:=fun v hv=>dG_at d (v:=v) hv
 obtain⟨N,hN⟩:∃N:Nat,nodesN d=(N:Int):=⟨(nodesN d).toNat,by omega⟩;have hNN:(nodesN d).toNat=N:=by omega
 rw[hNN]at hGr hGl hat ⊢;rw[hN,gmake_nat (by omega) (by omega)];simp only[Option.bind_some];have key:∀r:Option (List (List Int)×List (List Int)),(∃o,r=some o/\∃R,o=(dG d,R)/\RevOk N (dG d) R)->∃R,r=some (dG d,R)/\RevOk N (dG d) R:=by
  rintro r ⟨o,h1,R,h2,h3⟩
  exact⟨R,by rw[h1,h2],h3⟩
 refine key _ ?_
 refine loop_spec (fun s:Int×List (List Int)=>(0<=s.1/\s.1<=(N:Int))/\s.2.length=N/\∀u,u<N->((gAt s.2 u).length:Int)<=s.1*34/\(∀x,x∈gAt s.2 u↔∃v:Nat,x=(v:Int)/\(v:Int)<s.1/\v<N/\(u:Int)∈gAt (dG d) v)) _ (fun s=>(N - s.1).toNat) (fun s hI=> ?_) (0,List.replicate N ([]:List Int)) ⟨⟨by simp,by simp⟩,by simp,fun u hu=> ?_⟩
 rotate_left
 ·have e:gAt (List.replicate N ([]:List Int)) u=[]:=by unfold gAt;rw[List.getD,List.getElem?_replicate,if_pos hu];rfl
  simp only;rw[e];refine⟨by simp,fun x=>⟨fun q=>by simp at q,?_⟩⟩
  rintro⟨v,_,q,_⟩
  omega
 obtain⟨i,R⟩:=s;obtain⟨⟨i0,i1⟩,hRl,hR⟩:=hI;simp only at i0 i1 hRl hR
 try dsimp only
 by_cases hi:i<((dG d).length:Int)
 rotate_left
 ·right
  rw[df hi,cond_false];refine⟨_,rfl,R,rfl,hRl,fun u hu=> ?_⟩;have:=hR u hu;refine⟨by omega,fun x hx=> ?_,fun v hv=> ?_⟩
  ·obtain⟨v,e1,e2,e3,_⟩:=(this.2 x).1 hx;omega
  ·rw[this.2]
   constructor
   ·rintro⟨w,e1,_,_,e2⟩
    have:w=v:=by omega
    subst this;exact e2
   ·intro e;exact⟨v,rfl,by omega,hv,e⟩
 left
 obtain⟨k,rfl⟩:∃k:Nat,i=(k:Int):=⟨i.toNat,by omega⟩;have hk:k<N:=by omega
 rw[dt hi,cond_true,gin_nat (by omega),gAt_get (by omega)];simp only[Option.bind_some];have hgk:=hGr.2.2 k hk;have hgl:(gAt (dG d) k).length<=34:=by rw[hat k hk];exact srcsP_len d _
 refine stepE (A:=fun s' :Int×List (List Int)=>((0<=s'.1/\s'.1<=(N:Int))/\s'.2.length=N/\∀u,u<N->((gAt s'.2 u).length:Int)<=s'.1*34/\(∀x,x∈gAt s'.2 u↔∃v:Nat,x=(v:Int)/\(v:Int)<s'.1/\v<N/\(u:Int)∈gAt (dG d) v))/\(N - s'.1).toNat<(N - (k:Int)).toNat) ?_
 refine loop_spec (fun s:Int×List (List Int)=>(0<=s.1/\s.1<=((gAt (dG d) k).length:Int))/\s.2.length=N/\∀u,u<N->((gAt s.2 u).length:Int)<=(k:Int)*34+s.1/\(∀x,x∈gAt s.2 u↔(∃v:Nat,x=(v:Int)/\v<k/\v<N/\(u:Int)∈gAt (dG d) v)\/(x=(k:Int)/\(u:Int)∈(gAt (dG d) k).take s.1.toNat))) _ (fun s=>((gAt (dG d) k).length - s.1).toNat) (fun s hI=> ?_) (0,R) ⟨⟨by simp,by simp⟩,hRl,fun u hu=> ?_⟩
 rotate_left
 ·have:=hR u hu;refine⟨by simp only;omega,fun x=> ?_⟩;simp only;rw[this.2 x]
  constructor
  ·rintro⟨v,e1,e2,e3,e4⟩
   exact Or.inl ⟨v,e1,by omega,e3,e4⟩
  ·rintro(⟨v,e1,e2,e3,e4⟩ | ⟨_,e⟩)
   ·exact⟨v,e1,by omega,e3,e4⟩
   ·simp at e
 clear hR hRl
 clear R
 obtain⟨j,R⟩:=s;obtain⟨⟨j0,j1⟩,hRl,hR⟩:=hI;simp only at j0 j1 hRl hR
 try dsimp only
 by_cases hj:j<((gAt (dG d) k).length:Int)
 rotate_left
 ·right
  rw[df hj,cond_false,wrap_ok (z:=(k:Int)+1) (by omega)];refine⟨_,rfl,_,rfl,⟨⟨by simp only;omega,by simp only;omega⟩,hRl,fun u hu=> ?_⟩,by simp only;omega⟩;have:=hR u hu;refine⟨by simp only;omega,fun x=> ?_⟩;simp only;rw[this.2 x,List.take_of_length_le (by omega)]
  constructor
  ·rintro(⟨v,e1,e2,e3,e4⟩ | ⟨e1,e2⟩)
   ·exact⟨v,e1,by omega,e3,e4⟩
   ·exact⟨k,e1,by omega,hk,e2⟩
  ·rintro⟨v,e1,e2,e3,e4⟩
   by_cases q:v=k
   ·subst q;exact Or.inr ⟨e1,e4⟩
   ·exact Or.inl ⟨v,e1,by omega,e3,e4⟩
 left
 obtain⟨n,rfl⟩:∃n:Nat,j=(n:Int):=⟨j.toNat,by omega⟩;have hnl:n<(gAt (dG d) k).length:=by omega
 have hmem:nsAt (gAt (dG d) k) n∈gAt (dG d) k:=by rw[<-ns_at hnl];exact List.getElem_mem hnl
 have hur:=hgk.2 _ hmem;obtain⟨w,hw⟩:∃w:Nat,nsAt (gAt (dG d) k) n=(w:Int):=⟨(nsAt (gAt (dG d) k) n).toNat,by omega⟩;have hwN:w<N:=by omega
 have hRw:=hR w hwN;rw[dt hj,cond_true,nsAt_get hnl];simp only[Option.bind_some];rw[hw,gin_nat (by omega),gAt_get (by omega)];simp only[Option.bind_some];rw[gapp_ok (by simp only[List.length_cons,List.length_nil];omega)];simp only[Option.bind_some];rw[gset_nat,wrap_ok (z:=(n:Int)+1) (by omega)];have hsucc:((n:Int)+1).toNat=n+1:=by omega
 refine⟨_,rfl,⟨⟨by simp only;omega,by simp only;omega⟩,by simp only[List.length_set];exact hRl,fun u hu=> ?_⟩,by simp only;omega⟩;simp only;rw[gAt_set _ _ (by omega),hsucc,take_at hnl,hw];have hRu:=hR u hu;rw[Int.toNat_natCast]at hRu hRw;by_cases q:u=w
 ·subst q;rw[if_pos rfl];refine⟨by simp only[List.length_append,List.length_cons,List.length_nil];omega,fun x=> ?_⟩;rw[List.mem_append,hRu.2 x,List.mem_singleton,List.mem_append]
  constructor
  ·rintro((e | e) | e)
   ·exact Or.inl e
   ·exact Or.inr ⟨e.1,Or.inl e.2⟩
   ·exact Or.inr ⟨e,Or.inr (by simp)⟩
  ·rintro(e | ⟨e1,e2⟩)
   ·exact Or.inl (Or.inl e)
   ·exact Or.inr e1
 ·rw[if_neg q];refine⟨by omega,fun x=> ?_⟩;rw[hRu.2 x,List.mem_append,List.mem_singleton]
  constructor
  ·rintro(e | e)
   ·exact Or.inl e
   ·exact Or.inr ⟨e.1,Or.inl e.2⟩
  ·rintro(e | ⟨e1,e2 | e2⟩)
   ·exact Or.inl e
   ·exact Or.inr ⟨e1,e2⟩
   ·omega
end Go.Pf
/-
  Own work. Distances of the device's graph: both sides alike; starts and costs.
-/
namespace Go.Pf
open Go Go.Pu
set_option linter.unusedVariables false
end Go.Pf
/-
  Own work. Cheapest paths, plainly: both sides walk back along the same nodes.
-/
namespace Go.Pf
open Go Go.Pu
set_option linter.unusedVariables false
theorem least (p:Nat->Prop) [DecidablePred p]:∀n,p n->∃k,k<=n/\p k/\∀i,i<k->¬p i:=by
 intro n
 induction n using Nat.strongRecOn with
 | ind n ih=>
  intro h;by_cases q:∃i,i<n/\p i
  ·obtain⟨i,hi,hp⟩:=q;obtain⟨k,h1,h2,h3⟩:=ih i hi hp;exact⟨k,by omega,h2,h3⟩
  ·exact⟨n,Nat.le_refl _,h,fun i hi hp=>q ⟨i,hi,hp⟩⟩
theorem nodup_le:∀(N:Nat) (xs:List Int),xs.Nodup->(∀x∈xs,0<=x/\x<(N:Int))->xs.length<=N
 | 0,xs,_,h=>by
  cases xs with
  | nil=>simp
  | cons a r=>have:=h a (by simp);omega
 | N+1,xs,hn,h=>by
  have h1:=nodup_le N (xs.erase (N:Int)) (hn.erase _) (fun x hx=>by
   have:=(List.Nodup.mem_erase_iff hn).1 hx;have:=h x this.2;omega)
  have h2:=List.length_erase (a:=(N:Int)) (l:=xs);split at h2<;>omega
def okU (cs D:List Int)(v:Nat)(u:Int):Prop:=0<=nsAt D u.toNat/\nsAt D u.toNat+nsAt cs v=nsAt D v
instance (cs D:List Int)(v:Nat)(u:Int):Decidable (okU cs D v u):=by unfold okU;exact inferInstance
theorem pred_ex {N:Nat}{G:List (List Int)}{cs ss D:List Int}(h:IsDist N G cs ss D){v:Nat}(hv:v<N)(h0:0<nsAt D v):∃k,k<(gAt G v).length/\okU cs D v (nsAt (gAt G v) k)/\∀i,i<k->¬okU cs D v (nsAt (gAt G v) i):=by
 rcases h.1.2.2 v hv (by omega)with e | ⟨u,hu,hm,g0,g1⟩
 ·omega
 ·have hsat:=h.2.2 u v hu hv hm g0;unfold Sat at hsat;obtain⟨j,hj,ej⟩:=nsAt_mem hm;obtain⟨k,h1,h2,h3⟩:=least (fun k=>okU cs D v (nsAt (gAt G v) k)) j (by
   unfold okU;rw[ej,Int.toNat_natCast];omega)
  exact⟨k,by omega,h2,h3⟩
noncomputable def pthS (G:List (List Int))(cs D:List Int)(v2:Int×List Int):Option ((Int×List Int)⊕List Int):=
 (gget 0 D v2.1).bind fun v3=>
 let v4:Bool:=decide (0<v3)
 bif v4 then(
  joinO (
   Pu.loop (fun(v5:(Int×Int))=>
    (gget [] G v2.1).bind fun v6=>
    let v7:Int:=((v6).length:Int)
    let v8:Bool:=decide (v5.2<v7)
    bif v8 then(
     let v9:Bool:=decide (v5.1<0)
     bif v9 then(
      (gget [] G v2.1).bind fun v10=>
      (gget 0 v10 v5.2).bind fun v11=>
      (gget 0 D v11).bind fun v12=>
      let v13:Bool:=decide (0<=v12)
      bif v13 then(
       (gget 0 D v11).bind fun v14=>
       (gget 0 cs v2.1).bind fun v15=>
       let v16:Int:=wrap .i64 (v14+v15)
       (gget 0 D v2.1).bind fun v17=>
       let v18:Bool:=decide (v16=v17)
       bif v18 then(
        let v19:Int:=wrap .i64 (v5.2+1)
        some (.inl (v11,v19)))else
       let v19:Int:=wrap .i64 (v5.2+1)
       some (.inl (v5.1,v19)))else
      let v14:Int:=wrap .i64 (v5.2+1)
      some (.inl (v5.1,v14)))else
     Option.map Sum.inr (
      some (.inl v5.1)))else
    Option.map Sum.inr (
     some (.inl v5.1))) ((-1),0)) (fun(v5:Int)=>
   let v6:List Int:=[v5]
   (gapp 8 v2.2 v6).bind fun v7=>
   some (.inl (v5,v7))))else
 Option.map Sum.inr (
  let v5:Int:=((v2.2).length:Int)
  let v6:Int:=wrap .i64 (v5 - 1)
  Pu.loop (revF v2.2) (v6,([]:List Int)))
noncomputable def pthI (G:List (List Int))(cs ss D:List Int)(v10:Int×List Int):Option ((Int×List Int)⊕List Int):=
 (impl_hasInt (ss,v10.1)).bind fun v11=>
 let v12:Bool:= !v11
 bif v12 then(
  (gget [] G v10.1).bind fun v13=>
  let v14:Int:=((v13).length:Int)
  joinO (
   Pu.loop (fun(v15:Int)=>
    let v16:Bool:=decide (v15<v14)
    bif v16 then(
     (gget 0 v13 v15).bind fun v17=>
     (gin (D).length v17).bind fun _=>
     (gget 0 D v17).bind fun v19=>
     let v20:Bool:=decide (v19≠(-1))
     bif v20 then(
      (gin (D).length v17).bind fun _=>
      (gget 0 D v17).bind fun v22=>
      (gget 0 cs v10.1).bind fun v23=>
      let v24:Int:=wrap .i64 (v22+v23)
      (gin (D).length v10.1).bind fun _=>
      (gget 0 D v10.1).bind fun v26=>
      let v27:Bool:=decide (v24=v26)
      bif v27 then(
       Option.map Sum.inr (
        some (.inl v17)))else
      let v28:Int:=wrap .i64 (v15+1)
      some (.inl v28))else
     let v21:Int:=wrap .i64 (v15+1)
     some (.inl v21))else
    Option.map Sum.inr (
     some (.inl v10.1))) 0) (fun(v15:Int)=>
   let v16:List Int:=[v15]
   (gapp 8 v16 v10.2).bind fun v17=>
   some (.inl (v15,v17))))else
 Option.map Sum.inr (
  some v10.2)
def Chn (G:List (List Int)):List Int->Prop
 | x::y::r=>x∈gAt G y.toNat/\Chn G (y::r)
 | _=>True
theorem Chn.snoc {G:List (List Int)}{u v:Int}(h:u∈gAt G v.toNat):∀xs:List Int,Chn G (xs++[u])->Chn G (xs++[u]++[v])
 | [],_=>⟨h,trivial⟩
 | [x],hc=>⟨hc.1,h,trivial⟩
 | x::y::r,hc=>⟨hc.1,Chn.snoc h (y::r) hc.2⟩
theorem Chn.at {G:List (List Int)}:∀(xs:List Int) (j:Nat),Chn G xs->j+1<xs.length->nsAt xs j∈gAt G (nsAt xs (j+1)).toNat
 | [],j,_,h=>by simp at h
 | [x],j,_,h=>by simp at h
 | x::y::r,0,hc,_=>hc.1
 | x::y::r,j+1,hc,h=>Chn.at (y::r) j hc.2 (by simp only[List.length_cons]at h ⊢;omega)
theorem path_bothC {N:Nat}{G:List (List Int)}{cs ss D:List Int}(hG:GrOk N G)(hc:CsOk N cs)(h:IsDist N G cs ss D)(hss:∀s∈ss,0<=s/\s<(N:Int))(hsl:ss.length<=1048576):∀(m:Nat) (v:Nat),v<N->nsAt D v=(m:Int)->
 ∃ps:List Int,((ps++[(v:Int)]).Pairwise fun x y=>nsAt D x.toNat<nsAt D y.toNat)/\(∀x∈ps,(0<=x/\x<(N:Int))/\0<=nsAt D x.toNat/\nsAt D x.toNat<nsAt D v)/\
 (∀acc:List Int,acc.length+m<=200000000->(acc.length+m:Nat)<=200000000->loop (pthI G cs ss D) ((v:Int),acc)=some (ps++acc))/\
 (∃w,ps++[(v:Int)]=w)/\
 (∀acc:List Int,acc.length+m<=200000000->∃full:List Int,loop (pthS G cs D) ((v:Int),acc)=loop (pthS G cs D) (((ps++[(v:Int)]).headD 0),acc++ps.reverse)/\nsAt D ((ps++[(v:Int)]).headD 0).toNat=0/\(0<=(ps++[(v:Int)]).headD 0/\(ps++[(v:Int)]).headD 0<(N:Int)))/\
 Chn G (ps++[(v:Int)])/\(ps++[(v:Int)]).headD 0∈ss:=by
 intro m
 induction m using Nat.strongRecOn with
 | ind m ih=>
  intro v hv e;have hDl:=h.1.1;have hGl:=hG.1;have hcl:=hc.1;by_cases hm0:m=0
  ·subst hm0;have hst:(v:Int)∈ss:=by
    rcases h.1.2.2 v hv (by omega)with e2 | ⟨u,hu,hm,g0,g1⟩
    ·exact e2.1
    ·have:=hc.2 v hv;omega
   refine⟨[],by simp,by simp,fun acc hacc _=> ?_,⟨_,rfl⟩,fun acc hacc=>⟨[],?_,?_,?_⟩,trivial,hst⟩
   ·rw[loop_eq];unfold pthI;rw[has_impl _ _ (by omega)];simp only[Option.bind_some];rw[dt hst];rfl
   ·simp
   ·simp;exact e
   ·simp;exact hv
  ·have hD0:0<nsAt D v:=by omega
   obtain⟨k,hk,hok,hmin⟩:=pred_ex h hv hD0;have hgv:=hG.2.2 v hv;have hmem:nsAt (gAt G v) k∈gAt G v:=by rw[<-ns_at hk];exact List.getElem_mem hk
   have hur:=hgv.2 _ hmem;have hcv:=hc.2 v hv;have bv:=h.1.bound hG hv;have hbu:∀i,i<(gAt G v).length->∃u:Nat,nsAt (gAt G v) i=(u:Int)/\u<N∧-1<=nsAt D u/\nsAt D u<=82800000:=by
    intro i hi;have hmem:nsAt (gAt G v) i∈gAt G v:=by rw[<-ns_at hi];exact List.getElem_mem hi
    have hur:=hgv.2 _ hmem;have:=h.1.bound hG (v:=(nsAt (gAt G v) i).toNat) (by omega);exact⟨(nsAt (gAt G v) i).toNat,by omega,by omega,this.1,this.2⟩
   obtain⟨u,hu⟩:∃u:Nat,nsAt (gAt G v) k=(u:Int):=⟨(nsAt (gAt G v) k).toNat,by omega⟩;have huN:u<N:=by omega
   have hok2:=hok;unfold okU at hok;rw[hu,Int.toNat_natCast]at hok;obtain⟨n,hn⟩:∃n:Nat,nsAt D u=(n:Int):=⟨(nsAt D u).toNat,by omega⟩;have hnst:(v:Int)∉ss:=fun q=>by
    have:=h.2.1 _ q;rw[Int.toNat_natCast]at this;omega
   obtain⟨ps,p1,p2,p3,_,p5,p6,p7⟩:=ih n (by omega) u huN hn;have headE:(ps++[(u:Int)]++[(v:Int)]).headD 0=(ps++[(u:Int)]).headD 0:=by cases ps<;>rfl
   refine⟨ps++[(u:Int)],?_,fun x hx=> ?_,fun acc hacc _=> ?_,⟨_,rfl⟩,fun acc hacc=> ?_,Chn.snoc (by rw[Int.toNat_natCast,<-hu];exact hmem) ps p6,by rw[headE];exact p7⟩
   ·rw[List.pairwise_append];refine⟨p1,by simp,fun x hx y hy=> ?_⟩;have hy:=List.mem_singleton.1 hy;subst hy;rw[Int.toNat_natCast];rcases List.mem_append.1 hx with q | q
    ·have:=(p2 x q).2;omega
    ·have hq:=List.mem_singleton.1 q;subst hq;rw[Int.toNat_natCast];omega
   ·rcases List.mem_append.1 hx with q | q
    ·have:=p2 x q;omega
    ·have hq:=List.mem_singleton.1 q;subst hq;rw[Int.toNat_natCast];omega
   ·rw[loop_eq];have estep:pthI G cs ss D ((v:Int),acc)=some (.inl ((u:Int),(u:Int)::acc)):=by
     unfold pthI;rw[has_impl _ _ (by omega)];simp only[Option.bind_some];rw[df hnst,Bool.not_false,cond_true,gAt_get (by omega)];simp only[Option.bind_some];have inner:Pu.loop (fun(v15:Int)=>
      let v16:Bool:=decide (v15<((gAt G v).length:Int))
      bif v16 then(
       (gget 0 (gAt G v) v15).bind fun v17=>
       (gin (D).length v17).bind fun _=>
       (gget 0 D v17).bind fun v19=>
       let v20:Bool:=decide (v19≠(-1))
       bif v20 then(
        (gin (D).length v17).bind fun _=>
        (gget 0 D v17).bind fun v22=>
        (gget 0 cs (v:Int)).bind fun v23=>
        let v24:Int:=wrap .i64 (v22+v23)
        (gin (D).length (v:Int)).bind fun _=>
        (gget 0 D (v:Int)).bind fun v26=>
        let v27:Bool:=decide (v24=v26)
        bif v27 then(
         Option.map Sum.inr (
          some (.inl v17)))else
        let v28:Int:=wrap .i64 (v15+1)
        some (.inl v28))else
       let v21:Int:=wrap .i64 (v15+1)
       some (.inl v21))else
      Option.map Sum.inr (
       some (.inl (v:Int)))) 0=some ((.inl (u:Int)):Int⊕((Int×List Int)⊕List Int)):=by
      refine loop_upto k (fun i=>(i:Int)) (fun i hi=> ?_) ?_
      ·obtain⟨w,hw,hwN,b1,b2⟩:=hbu i (by omega);have hno:=hmin i hi;unfold okU at hno;rw[hw,Int.toNat_natCast]at hno
       try dsimp only
       rw[dt (show(i:Int)<((gAt G v).length:Int)by omega),cond_true,nsAt_get (by omega)];simp only[Option.bind_some];rw[hw,gin_nat (by omega),nsAt_get (show w<D.length by omega)];simp only[Option.bind_some];rw[nsAt_get (show v<cs.length by omega),gin_nat (show v<D.length by omega),nsAt_get (show v<D.length by omega),wrap_ok (z:=(i:Int)+1) (by omega)];simp only[Option.bind_some];by_cases g:nsAt D w≠-1
       ·rw[dt g,cond_true,wrap_ok (by omega),df (by omega),cond_false];rfl
       ·rw[df g,cond_false];rfl
      ·try dsimp only
       rw[dt (show(k:Int)<((gAt G v).length:Int)by omega),cond_true,nsAt_get hk];simp only[Option.bind_some];rw[hu,gin_nat (by omega),nsAt_get (show u<D.length by omega)];simp only[Option.bind_some];rw[nsAt_get (show v<cs.length by omega),gin_nat (show v<D.length by omega),nsAt_get (show v<D.length by omega)];simp only[Option.bind_some];rw[dt (show nsAt D u≠-1 by omega),cond_true,wrap_ok (by omega),dt (by omega),cond_true];rfl
     dsimp only at inner;rw[inner,joinO_inl,gapp_ok (by simp only[List.length_cons,List.length_nil];omega)];rfl
    rw[estep];simp only;rw[p3 _ (by simp only[List.length_cons];omega) (by simp only[List.length_cons];omega)];simp
   ·have estep:pthS G cs D ((v:Int),acc)=some (.inl ((u:Int),acc++[(u:Int)])):=by
     unfold pthS
     try dsimp only
     rw[nsAt_get (show v<D.length by omega)];simp only[Option.bind_some];rw[dt hD0,cond_true];refine Eq.trans (congrArg (fun o=>joinO o _) (?_:_=some (.inl (u:Int)))) ?_
     ·have hnext:∀z:Int,decide (z<0)=false->z=(u:Int)->True:=fun _ _ _=>trivial
      refine loop_upto (k+1) (fun i=>(if i<=k then(-1:Int)else(u:Int),(i:Int))) (fun i hi=> ?_) ?_
      ·obtain⟨w,hw,hwN,b1,b2⟩:=hbu i (by omega)
       try dsimp only
       rw[gAt_get (by omega)];simp only[Option.bind_some];rw[dt (show(i:Int)<((gAt G v).length:Int)by omega),cond_true,if_pos (by omega),dt (by omega),cond_true,nsAt_get (by omega)];simp only[Option.bind_some];rw[hw,nsAt_get (show w<D.length by omega)];simp only[Option.bind_some];rw[nsAt_get (show v<cs.length by omega),wrap_ok (z:=(i:Int)+1) (by omega)];simp only[Option.bind_some];by_cases qi:i=k
       ·subst qi;have:w=u:=by omega
        subst this;rw[dt (by omega),cond_true,wrap_ok (by omega),dt (by omega),cond_true,if_neg (by omega)];rfl
       ·have hno:=hmin i (by omega);unfold okU at hno;rw[hw,Int.toNat_natCast]at hno;rw[if_pos (show i+1<=k by omega)];by_cases g:0<=nsAt D w
        ·rw[dt g,cond_true,wrap_ok (by omega),df (by omega),cond_false];rfl
        ·rw[df g,cond_false];rfl
      ·try dsimp only
       rw[gAt_get (by omega),if_neg (by omega),df (show ¬(u:Int)<0 by omega)];simp only[Option.bind_some];cases decide (((k+1:Nat):Int)<((gAt G v).length:Int))<;>rfl
     ·rw[joinO_inl,gapp_ok (by simp only[List.length_cons,List.length_nil];omega)];rfl
    obtain⟨_,q1,q2,q3⟩:=p5 (acc++[(u:Int)]) (by simp only[List.length_append,List.length_cons,List.length_nil];omega);refine⟨[],?_,by rw[headE];exact q2,by rw[headE];exact q3⟩;rw[loop_eq,estep];simp only;rw[q1,headE];simp
theorem path_fullC {N:Nat}{G:List (List Int)}{cs ss D:List Int}(hG:GrOk N G)(hc:CsOk N cs)(h:IsDist N G cs ss D)(hss:∀s∈ss,0<=s/\s<(N:Int))(hsl:ss.length<=1048576){v:Nat}(hv:v<N)(h0:0<=nsAt D v):
 ∃(a:Int) (t:List Int),spec_l33Path (G,(cs,(D,(v:Int))))=some (a::t)/\loop (pthI G cs ss D) ((v:Int),[(v:Int)])=some (a::t)/\(a::t).Nodup/\(∀x∈a::t,0<=x/\x<(N:Int))/\(∀x∈t,x∉ss)/\a∈ss/\Chn G (a::t)/\(a::t).getLast? =some (v:Int):=by
 obtain⟨m,hm⟩:∃m:Nat,nsAt D v=(m:Int):=⟨(nsAt D v).toNat,by omega⟩;have bv:=h.1.bound hG hv;obtain⟨ps,p1,p2,p3,_,p5,p6,p7⟩:=path_bothC hG hc h hss hsl m v hv hm;obtain⟨_,q1,q2,q3⟩:=p5 [(v:Int)] (by simp only[List.length_cons,List.length_nil];omega);have hDl:=h.1.1;have hnd:(ps++[(v:Int)]).Nodup:=p1.imp (fun hq e=>by subst e;omega);have hrange:∀x∈ps++[(v:Int)],0<=x/\x<(N:Int):=by
  intro x hx;rcases List.mem_append.1 hx with q | q
  ·exact(p2 x q).1
  ·have:=List.mem_singleton.1 q;omega
 have hlen:=nodup_le N _ hnd hrange;have hN:=hG.2.1;obtain⟨a,t,hat⟩:∃a t,ps++[(v:Int)]=a::t:=by
  cases ps with
  | nil=>exact⟨_,_,rfl⟩
  | cons a r=>exact⟨_,_,rfl⟩
 refine⟨a,t,?_,?_,by rw[<-hat];exact hnd,by rw[<-hat];exact hrange,fun x hx hxs=> ?_,by rw[hat]at p7;exact p7,by rw[<-hat];exact p6,by rw[<-hat];simp⟩
 ·have eS:spec_l33Path (G,(cs,(D,(v:Int))))=loop (pthS G cs D) ((v:Int),[(v:Int)]):=rfl;rw[eS,q1,loop_eq];unfold pthS;rw[hat]at q2 q3 hlen ⊢;simp only[List.headD_cons]at q2 q3 ⊢;obtain⟨w,hw⟩:∃w:Nat,a=(w:Int):=⟨a.toNat,by omega⟩;rw[hw,Int.toNat_natCast]at q2;rw[hw,nsAt_get (show w<D.length by omega)];simp only[Option.bind_some];rw[df (show ¬0<nsAt D w by omega),cond_false];have er:[(v:Int)]++ps.reverse=(a::t).reverse:=by rw[<-hat];simp
  rw[er];have hl:(a::t).reverse.length=t.length+1:=by simp
  simp only[List.length_cons]at hlen;have hw2:wrap .i64 (((a::t).reverse.length:Int) - 1)=(((a::t).reverse.length:Nat):Int) - 1:=by rw[wrap_ok (by omega)]
  rw[hw2,rev_ok (a::t).reverse (a::t).reverse.length [] (Nat.le_refl _) (by omega) (by simp;omega),List.take_of_length_le (Nat.le_refl _),List.reverse_reverse,hw];rfl
 ·rw[p3 [(v:Int)] (by simp only[List.length_cons,List.length_nil];omega) (by simp only[List.length_cons,List.length_nil];omega),hat]
 ·rw[hat]at p1;rw[List.pairwise_cons]at p1;have h1:=p1.1 x hx;have h2:=h.2.1 x hxs;rw[hat]at q2;simp only[List.headD_cons]at q2;omega
theorem path_full {N:Nat}{G:List (List Int)}{cs ss D:List Int}(hG:GrOk N G)(hc:CsOk N cs)(h:IsDist N G cs ss D)(hss:∀s∈ss,0<=s/\s<(N:Int))(hsl:ss.length<=1048576){v:Nat}(hv:v<N)(h0:0<=nsAt D v):
 ∃(a:Int) (t:List Int),spec_l33Path (G,(cs,(D,(v:Int))))=some (a::t)/\loop (pthI G cs ss D) ((v:Int),[(v:Int)])=some (a::t)/\(a::t).Nodup/\(∀x∈a::t,0<=x/\x<(N:Int))/\(∀x∈t,x∉ss):=by
 obtain⟨a,t,e1,e2,e3,e4,e5,_⟩:=path_fullC hG hc h hss hsl hv h0;exact⟨a,t,e1,e2,e3,e4,e5⟩
theorem cheapest_impl {N:Nat}{G R:List (List Int)}{cs ss D:List Int}(hG:GrOk N G)(hc:CsOk N cs)(hD:impl_distances ((G,R),(cs,ss))=some D)(h:IsDist N G cs ss D)(hss:∀s∈ss,0<=s/\s<(N:Int))(hsl:ss.length<=1048576)(tgt:Int):
 impl_cheapestPath ((G,R),(cs,(ss,tgt)))=if(0<=tgt/\tgt<(N:Int))/\0<=nsAt D tgt.toNat then spec_l33Path (G,(cs,(D,tgt)))else some []:=by
 have hDl:=h.1.1;have hN:=hG.2.1;unfold impl_cheapestPath
 try dsimp only
 rw[hD];simp only[Option.bind_some];rw[wrap_ok (by omega),inR_impl];simp only[Option.bind_some];by_cases g:0<=tgt/\tgt<(N:Int)
 rotate_left
 ·rw[df (by omega),if_neg (fun e=>g e.1)];rfl
 rw[dt (by omega),Bool.not_true,cond_false];obtain⟨v,rfl⟩:∃v:Nat,tgt=(v:Int):=⟨tgt.toNat,by omega⟩;have hv:v<N:=by omega
 have bv:=h.1.bound hG hv;rw[gin_nat (by omega),nsAt_get (show v<D.length by omega),Int.toNat_natCast];simp only[Option.bind_some];by_cases g2:nsAt D v= -1
 ·rw[dt g2,if_neg (fun e=>by omega)];rfl
 rw[df g2,cond_false,if_pos ⟨g,by omega⟩];obtain⟨a,t,e1,e2,_⟩:=path_full hG hc h hss hsl hv (by omega);rw[e1];exact e2
end Go.Pf
/-
  Own work. A route that grows sink by sink, plainly.
-/
namespace Go.Pf
open Go Go.Pu
set_option linter.unusedVariables false
noncomputable def grwS (G:List (List Int))(cs snks:List Int)(v3:Int×(List Int×List Int)):Option ((Int×(List Int×List Int))⊕((List Int×List Int)×Bool)):=
 let v4:Int:=((snks).length:Int)
 let v5:Bool:=decide (v3.1<v4)
 bif v5 then(
  (gget 0 snks v3.1).bind fun v6=>
  let v7:Bool:=decide (v6<0)
  bif v7 then(
   Option.map Sum.inr (
    some ((([]:List Int),([]:List Int)),false)))else
  (gget 0 snks v3.1).bind fun v8=>
  let v9:Int:=((G).length:Int)
  let v10:Bool:=decide (v9<=v8)
  bif v10 then(
   Option.map Sum.inr (
    some ((([]:List Int),([]:List Int)),false)))else
  (gget 0 snks v3.1).bind fun v11=>
  (spec_l13Has (v3.2.1,v11)).bind fun v12=>
  bif v12 then(
   let v13:Int:=wrap .i64 (v3.1+1)
   some (.inl (v13,v3.2)))else
  (spec_l33Distances (G,(cs,v3.2.1))).bind fun v13=>
  (gget 0 snks v3.1).bind fun v14=>
  (gin (v13).length v14).bind fun _=>
  (gget 0 v13 v14).bind fun v16=>
  let v17:Bool:=decide (v16<0)
  bif v17 then(
   Option.map Sum.inr (
    some ((([]:List Int),([]:List Int)),false)))else
  (gget 0 snks v3.1).bind fun v18=>
  (spec_l33Path (G,(cs,(v13,v18)))).bind fun v19=>
  Pu.loop (fun(v20:(Int×Int))=>
   let v21:Int:=((v3.2.1).length:Int)
   let v22:Bool:=decide (v20.1<v21)
   bif v22 then(
    (gin (v3.2.1).length v20.1).bind fun _=>
    (gget 0 v3.2.1 v20.1).bind fun v24=>
    (gin (v19).length 0).bind fun _=>
    (gget 0 v19 0).bind fun v26=>
    let v27:Bool:=decide (v24=v26)
    bif v27 then(
     let v28:Int:=wrap .i64 (v20.1+1)
     some (.inl (v28,v20.1)))else
    let v28:Int:=wrap .i64 (v20.1+1)
    some (.inl (v28,v20.2)))else
   Option.map Sum.inr (
    Pu.loop (fun(v23:(Int×(Int×(List Int×List Int))))=>
     let v24:Int:=((v19).length:Int)
     let v25:Bool:=decide (v23.2.1<v24)
     bif v25 then(
      (gin (v19).length v23.2.1).bind fun _=>
      (gget 0 v19 v23.2.1).bind fun v27=>
      let v28:List Int:=[v27]
      (gapp 8 v23.2.2.1 v28).bind fun v29=>
      let v30:List Int:=[v23.1]
      (gapp 8 v23.2.2.2 v30).bind fun v31=>
      let v32:Int:=((v29).length:Int)
      let v33:Int:=wrap .i64 (v32 - 1)
      let v34:Int:=wrap .i64 (v23.2.1+1)
      some (.inl (v33,(v34,(v29,v31)))))else
     Option.map Sum.inr (
      let v26:Int:=wrap .i64 (v3.1+1)
      some (.inl (v26,v23.2.2)))) (v20.2,(1,v3.2)))) (0,0))else
 Option.map Sum.inr (
  some (v3.2,true))
noncomputable def grwI (GR:List (List Int)×List (List Int))(cs snks:List Int)(v4:Int×(List Int×List Int)):Option ((Int×(List Int×List Int))⊕((List Int×List Int)×Bool)):=
 let v5:Bool:=decide (v4.1<((snks).length:Int))
 bif v5 then(
  (gget 0 snks v4.1).bind fun v6=>
  (impl_hasInt (v4.2.1,v6)).bind fun v7=>
  bif v7 then(
   let v8:Int:=wrap .i64 (v4.1+1)
   some (.inl (v8,v4.2)))else
  (impl_cheapestPath (GR,(cs,(v4.2.1,v6)))).bind fun v8=>
  (gnil true v8).bind fun v9=>
  bif v9 then(
   Option.map Sum.inr (
    some ((([]:List Int),([]:List Int)),false)))else
  let v10:Int:=((v4.2.1).length:Int)
  Pu.loop (fun(v11:(Int×Int))=>
   let v12:Bool:=decide (v11.1<v10)
   bif v12 then(
    (gin (v4.2.1).length v11.1).bind fun _=>
    (gget 0 v4.2.1 v11.1).bind fun v14=>
    (gin (v8).length 0).bind fun _=>
    (gget 0 v8 0).bind fun v16=>
    let v17:Bool:=decide (v14=v16)
    bif v17 then(
     let v18:Int:=wrap .i64 (v11.1+1)
     some (.inl (v18,v11.1)))else
    let v18:Int:=wrap .i64 (v11.1+1)
    some (.inl (v18,v11.2)))else
   Option.map Sum.inr (
    (gslice v8 1 ((v8).length:Int)).bind fun v13=>
    let v14:Int:=((v13).length:Int)
    Pu.loop (fun(v15:(Int×(Int×(List Int×List Int))))=>
     let v16:Bool:=decide (v15.2.1<v14)
     bif v16 then(
      (gget 0 v13 v15.2.1).bind fun v17=>
      let v18:List Int:=[v17]
      (gapp 8 v15.2.2.1 v18).bind fun v19=>
      let v20:List Int:=[v15.1]
      (gapp 8 v15.2.2.2 v20).bind fun v21=>
      let v22:Int:=((v19).length:Int)
      let v23:Int:=wrap .i64 (v22 - 1)
      let v24:Int:=wrap .i64 (v15.2.1+1)
      some (.inl (v23,(v24,(v19,v21)))))else
     Option.map Sum.inr (
      let v17:Int:=wrap .i64 (v4.1+1)
      some (.inl (v17,v15.2.2)))) (v11.2,(0,v4.2)))) (0,0))else
 Option.map Sum.inr (
  some (v4.2,true))
def lastAt (ns:List Int)(a:Int):Nat->Int
 | 0=>0
 | k+1=>if nsAt ns k=a then(k:Int)else lastAt ns a k
theorem lastAt_succ (ns:List Int)(a:Int)(k:Nat):lastAt ns a (k+1)=if nsAt ns k=a then(k:Int)else lastAt ns a k:=rfl
def pars (idx:Int)(L:Nat):Nat->List Int
 | 0=>[]
 | k+1=>pars idx L k++[if k=0 then idx else(((L+k:Nat):Int) - 1)]
theorem pars_len (idx:Int)(L k:Nat):(pars idx L k).length=k:=by
 induction k with
 | zero=>rfl
 | succ k ih=>unfold pars;simp[ih]
def GrowOk (N:Nat)(st:List Int×List Int):Prop:=st.1.Nodup/\(∀x∈st.1,0<=x/\x<(N:Int))/\st.2.length=st.1.length
theorem GrowOk.len {N:Nat}{st:List Int×List Int}(h:GrowOk N st):st.1.length<=N:=nodup_le N _ h.1 h.2.1
def GTo (G:List (List Int))(tgt:Int)(st st' :List Int×List Int):Prop:=
 (tgt∈st.1/\st' =st)\/∃a t,a∈st.1/\Chn G (a::t)/\(a::t).getLast? =some tgt/\t≠[]/\st' =(st.1++t,st.2++pars (lastAt st.1 a st.1.length) st.1.length t.length)
theorem grow_step {N:Nat}{G R:List (List Int)}{cs:List Int}(hG:GrOk N G)(hR:RevOk N G R)(hc:CsOk N cs)(snks:List Int)(st:List Int×List Int)(hst:GrowOk N st)(hne:st.1≠[])(k:Nat)(hk:k<snks.length)(hkl:snks.length<=1048576):
 (grwS G cs snks ((k:Int),st)=some (.inr (([],[]),false))/\grwI (G,R) cs snks ((k:Int),st)=some (.inr (([],[]),false)))\/
 ∃st',GrowOk N st'∧st'.1≠[]/\GTo G (nsAt snks k) st st'∧grwS G cs snks ((k:Int),st)=some (.inl (((k+1:Nat):Int),st'))/\grwI (G,R) cs snks ((k:Int),st)=some (.inl (((k+1:Nat):Int),st')):=by
 obtain⟨ns,ps⟩:=st;have hlen:=hst.len;have hN:=hG.2.1;have hGl:=hG.1;obtain⟨hnd,hrg,hpl⟩:=hst;simp only at hnd hrg hpl hlen hne;obtain⟨D,d1,d2⟩:=dist_spec hG hc hrg (show ns.length<=1048576 by omega);obtain⟨E,d3,d4⟩:=dist_impl hG hR hc hrg (show ns.length<=1048576 by omega);have hu:=dist_uniq hc d2 d4;subst hu;have hDl:=d2.1.1;unfold grwS grwI
 try dsimp only
 rw[dt (show(k:Int)<(snks.length:Int)by omega),cond_true,cond_true,nsAt_get hk];simp only[Option.bind_some];rw[has_impl _ _ (by omega),cheapest_impl hG hc d3 d2 hrg (by omega)];simp only[Option.bind_some];generalize nsAt snks k=tgt at*;by_cases g1:tgt<0
 ·left
  have hno:tgt∉ns:=fun q=>by have:=hrg _ q;omega
  rw[dt g1,df hno,if_neg (fun e=>by omega)];exact⟨rfl,rfl⟩
 rw[df g1,cond_false];by_cases g2:(G.length:Int)<=tgt
 ·left
  have hno:tgt∉ns:=fun q=>by have:=hrg _ q;omega
  rw[dt g2,df hno,if_neg (fun e=>by omega)];exact⟨rfl,rfl⟩
 rw[df g2,cond_false,has_spec _ _ (by omega)];simp only[Option.bind_some];by_cases g3:tgt∈ns
 ·right
  rw[dt g3,cond_true,cond_true,wrap_ok (by omega)];exact⟨(ns,ps),⟨hnd,hrg,hpl⟩,hne,Or.inl ⟨g3,rfl⟩,rfl,rfl⟩
 rw[df g3,cond_false,cond_false,d1];simp only[Option.bind_some];obtain⟨v,rfl⟩:∃v:Nat,tgt=(v:Int):=⟨tgt.toNat,by omega⟩;have hv:v<N:=by omega
 rw[gin_nat (by omega),nsAt_get (show v<D.length by omega),Int.toNat_natCast];simp only[Option.bind_some];by_cases g4:nsAt D v<0
 ·left
  rw[dt g4,if_neg (fun e=>by omega)];exact⟨rfl,rfl⟩
 rw[df g4,cond_false,if_pos ⟨⟨by omega,by omega⟩,by omega⟩];obtain⟨a,t,e1,e2,e3,e4,e5,e6,e7,e8⟩:=path_fullC hG hc d2 hrg (by omega) hv (by omega);have htl:=nodup_le _ _ e3 e4;simp only[List.length_cons]at htl
 right
 rw[e1];simp only[Option.bind_some];have enil:gnil true (a::t)=some false:=rfl;rw[enil];simp only[Option.bind_some,cond_false];have hgrow:GrowOk N (ns++t,ps++pars (lastAt ns a ns.length) ns.length t.length):=by
  refine⟨?_,fun x hx=> ?_,?_⟩
  ·simp only;rw[List.nodup_append];refine⟨hnd,(List.nodup_cons.1 e3).2,fun x hx y hy e=>e5 y hy (by rw[<-e];exact hx)⟩
  ·rcases List.mem_append.1 hx with q | q
   ·exact hrg x q
   ·exact e4 x (List.mem_cons_of_mem _ q)
  ·simp only[List.length_append,pars_len];omega
 have ga:gget 0 (a::t) 0=some a:=gget_nat (show 0<(a::t).length by simp);have gi:gin (a::t).length 0=some ():=gin_nat (show 0<(a::t).length by simp);have stepIdx:∀j,j<ns.length->(bif decide ((j:Int)<(ns.length:Int))then(
  (gin (ns).length (j:Int)).bind fun _=>
  (gget 0 ns (j:Int)).bind fun v24=>
  (gin (a::t).length 0).bind fun _=>
  (gget 0 (a::t) 0).bind fun v26=>
  let v27:Bool:=decide (v24=v26)
  bif v27 then(
   let v28:Int:=wrap .i64 ((j:Int)+1)
   (some (.inl (v28,(j:Int))):Option ((Int×Int)⊕((Int×(List Int×List Int))⊕((List Int×List Int)×Bool)))))else
  let v28:Int:=wrap .i64 ((j:Int)+1)
  some (.inl (v28,lastAt ns a j)))else none)=some (.inl (((j+1:Nat):Int),lastAt ns a (j+1))):=by
  intro j hj;rw[dt (by omega),cond_true,gin_nat hj,nsAt_get hj,gi,ga];simp only[Option.bind_some];rw[wrap_ok (by omega),lastAt_succ];by_cases q:nsAt ns j=a
  ·rw[dt q,if_pos q];rfl
  ·rw[df q,if_neg q];rfl
 refine⟨_,hgrow,by simp[hne],Or.inr ⟨a,t,e6,e7,e8,fun e=>by subst e;rw[List.getLast?_singleton]at e8;exact g3 (Option.some.inj e8▸e6),rfl⟩,?_,?_⟩
 ·refine loop_upto ns.length (fun j=>((j:Int),lastAt ns a j)) (fun j hj=> ?_) ?_
  ·have:=stepIdx j hj
   try dsimp only at this ⊢
   rw[dt (show(j:Int)<(ns.length:Int)by omega),cond_true]at this ⊢;exact this
  ·try dsimp only
   rw[df (by omega),cond_false];refine(Option.map_eq_some_iff).2 ⟨_,?_,rfl⟩;have est:(lastAt ns a ns.length,((1:Int),(ns,ps)))=(fun j:Nat=>((if j=0 then lastAt ns a ns.length else((ns.length+j:Nat):Int) - 1),((j:Int)+1,(ns++t.take j,ps++pars (lastAt ns a ns.length) ns.length j)))) 0:=by
    simp[pars]
   rw[est];refine loop_upto t.length (fun j=>((if j=0 then lastAt ns a ns.length else((ns.length+j:Nat):Int) - 1),((j:Int)+1,(ns++t.take j,ps++pars (lastAt ns a ns.length) ns.length j)))) (fun j hj=> ?_) ?_
   ·have ej:(j:Int)+1=((j+1:Nat):Int):=rfl;have l1:(ns++t.take j).length=ns.length+j:=by simp;omega
    have l2:=pars_len (lastAt ns a ns.length) ns.length j;have htj:nsAt (a::t) (j+1)=t[j]:=by unfold nsAt;simp[hj]
    try dsimp only
    rw[ej,dt (by simp only[List.length_cons];omega),cond_true,gin_nat (by simp only[List.length_cons];omega),nsAt_get (show j+1<(a::t).length by simp only[List.length_cons];omega),htj];simp only[Option.bind_some];rw[gapp_ok (by rw[l1];simp;omega)];simp only[Option.bind_some];rw[gapp_ok (by rw[List.length_append,l2];simp;omega)];simp only[Option.bind_some];have l3:((ns++t.take j++[t[j]]).length:Int)=((ns.length+(j+1):Nat):Int):=by rw[List.length_append,l1];simp;omega
    rw[l3,wrap_ok (by omega),wrap_ok (by omega),if_neg (show ¬j+1=0 by omega),List.append_assoc ns,<-take_succ' t j hj,List.append_assoc ps];rfl
   ·try dsimp only
    rw[df (by simp only[List.length_cons];omega),cond_false,wrap_ok (by omega),List.take_of_length_le (Nat.le_refl _)];rfl
 ·refine loop_upto ns.length (fun j=>((j:Int),lastAt ns a j)) (fun j hj=> ?_) ?_
  ·have:=stepIdx j hj
   try dsimp only at this ⊢
   rw[dt (show(j:Int)<(ns.length:Int)by omega),cond_true]at this ⊢;exact this
  ·try dsimp only
   rw[df (by omega),cond_false];refine(Option.map_eq_some_iff).2 ⟨_,?_,rfl⟩;have esl:gslice (a::t) 1 ((a::t).length:Int)=some t:=by
    have:=gslice_suf (xs:=a::t) (k:=1) (by simp);simpa using this
   rw[esl];simp only[Option.bind_some];have est:(lastAt ns a ns.length,((0:Int),(ns,ps)))=(fun j:Nat=>((if j=0 then lastAt ns a ns.length else((ns.length+j:Nat):Int) - 1),((j:Int),(ns++t.take j,ps++pars (lastAt ns a ns.length) ns.length j)))) 0:=by
    simp[pars]
   rw[est];refine loop_upto t.length (fun j=>((if j=0 then lastAt ns a ns.length else((ns.length+j:Nat):Int) - 1),((j:Int),(ns++t.take j,ps++pars (lastAt ns a ns.length) ns.length j)))) (fun j hj=> ?_) ?_
   ·have l1:(ns++t.take j).length=ns.length+j:=by simp;omega
    have l2:=pars_len (lastAt ns a ns.length) ns.length j
    try dsimp only
    rw[dt (show(j:Int)<(t.length:Int)by omega),cond_true,gget_nat hj];simp only[Option.bind_some];rw[gapp_ok (by rw[l1];simp;omega)];simp only[Option.bind_some];rw[gapp_ok (by rw[List.length_append,l2];simp;omega)];simp only[Option.bind_some];have l3:((ns++t.take j++[t[j]]).length:Int)=((ns.length+(j+1):Nat):Int):=by rw[List.length_append,l1];simp;omega
    rw[l3,wrap_ok (by omega),wrap_ok (by omega),if_neg (show ¬j+1=0 by omega),List.append_assoc ns,<-take_succ' t j hj,List.append_assoc ps];rfl
   ·try dsimp only
    rw[df (by omega),cond_false,wrap_ok (by omega),List.take_of_length_le (Nat.le_refl _)];rfl
theorem grow_bothC {N:Nat}{G R:List (List Int)}{cs:List Int}(hG:GrOk N G)(hR:RevOk N G R)(hc:CsOk N cs)(snks:List Int)(hkl:snks.length<=1048576)(I:Nat->List Int×List Int->Prop)(hI:∀k st st',k<snks.length->GrowOk N st->GrowOk N st'→I k st->GTo G (nsAt snks k) st st'→I (k+1) st'):∀(m k:Nat) (st:List Int×List Int),k+m=snks.length->GrowOk N st->st.1≠[]->
 ∃o,loop (grwS G cs snks) ((k:Int),st)=some o/\loop (grwI (G,R) cs snks) ((k:Int),st)=some o/\(GrowOk N o.1\/o=(([],[]),false))/\(I k st->o.2=true->GrowOk N o.1/\I snks.length o.1):=by
 intro m
 induction m with
 | zero=>
  intro k st hk hst hne;have hk:k=snks.length:=by omega
  subst hk;refine⟨(st,true),?_,?_,Or.inl hst,fun hi _=>⟨hst,hi⟩⟩
  ·rw[loop_eq];unfold grwS;dsimp only;rw[df (show ¬(snks.length:Int)<(snks.length:Int)by omega)];rfl
  ·rw[loop_eq];unfold grwI;dsimp only;rw[df (show ¬(snks.length:Int)<(snks.length:Int)by omega)];rfl
 | succ m ih=>
  intro k st hk hst hne;rcases grow_step hG hR hc snks st hst hne k (by omega) hkl with⟨h1,h2⟩ | ⟨st',g1,g2,g3,h1,h2⟩
  ·exact⟨_,by rw[loop_eq,h1],by rw[loop_eq,h2],Or.inr rfl,fun _ e=>by cases e⟩
  ·obtain⟨o,o1,o2,o3,o4⟩:=ih (k+1) st' (by omega) g1 g2;exact⟨o,by rw[loop_eq,h1];exact o1,by rw[loop_eq,h2];exact o2,o3,fun hi e=>o4 (hI k st st' (by omega) hst g1 hi g3) e⟩
end Go.Pf
/-
  Own work. Routing all connections, plainly: loads without one route, their bounds, shared costs.
-/
namespace Go.Pf
open Go Go.Pu
set_option linter.unusedVariables false
def ldF (N:Nat)(c:List Int)(rs:List Rt):List Int:=rs.foldl (fun c r=>cnT N r.1 c r.1.length) c
theorem ldT_fold (N:Nat)(rs:List Rt):∀j,j<=rs.length->ldT N rs (-1) j=ldF N (List.replicate N 0) (rs.take j):=by
 intro j
 induction j with
 | zero=>intro _;rfl
 | succ j ih=>
  intro hj;unfold ldT;rw[if_neg (by omega),ih (by omega),rs_at (show j<rs.length by omega),take_succ' rs j (by omega)];unfold ldF;rw[List.foldl_append];rfl
theorem ldT_skip (N:Nat)(rs:List Rt){k:Nat}(hk:k<rs.length):∀j,j<=rs.length->ldT N rs (k:Int) j=ldF N (List.replicate N 0) (if j<=k then rs.take j else rs.take k++(rs.take j).drop (k+1)):=by
 intro j
 induction j with
 | zero=>intro _;rw[if_pos (by omega)];rfl
 | succ j ih=>
  intro hj;have ih:=ih (by omega);unfold ldT;by_cases c:j=k
  ·subst c;rw[if_pos (Nat.le_refl j)]at ih;rw[if_pos rfl,ih,if_neg (by omega),List.drop_of_length_le (by rw[List.length_take];omega),List.append_nil]
  ·rw[if_neg (by omega),ih,rs_at (show j<rs.length by omega)];by_cases c2:j<k
   ·rw[if_pos (by omega),if_pos (by omega),take_succ' rs j (by omega)];unfold ldF;rw[List.foldl_append];rfl
   ·rw[if_neg (by omega),if_neg (by omega),take_succ' rs j (by omega),List.drop_append_of_le_length (by rw[List.length_take];omega),<-List.append_assoc];unfold ldF;rw[List.foldl_append (l:=_++_)];rfl
theorem ld_without (N:Nat)(rs:List Rt){k:Nat}(hk:k<rs.length):ldT N (rs.take k++rs.drop (k+1)) (-1) (rs.take k++rs.drop (k+1)).length=ldT N rs (k:Int) rs.length:=by
 rw[ldT_fold N _ _ (Nat.le_refl _),ldT_skip N rs hk _ (Nat.le_refl _),if_neg (by omega),List.take_length,List.take_length]
theorem cnT_bd {N:Nat}{ns c0:List Int}{M:Int}(hl:c0.length=N)(hM:0<=M/\M<=1000000)(h:∀x,x<N->0<=nsAt c0 x/\nsAt c0 x<=M):∀j,j<=ns.length->∀x,x<N->(0<=nsAt (cnT N ns c0 j) x/\nsAt (cnT N ns c0 j) x<=M+1)/\((x:Int)∉ns.take j->nsAt (cnT N ns c0 j) x=nsAt c0 x):=by
 intro j
 induction j with
 | zero=>intro _ x hx;have:=h x hx;exact⟨⟨this.1,by show nsAt c0 x<=_;omega⟩,fun _=>rfl⟩
 | succ j ih=>
  intro hj x hx;have ih:=ih (by omega);have hlen:=cnT_len N ns c0 j;unfold cnT;by_cases q:inN N (nsAt ns j)/\nsAt ns j∉ns.take j
  ·rw[if_pos q];have hy:(nsAt ns j).toNat<N:=by have:=q.1;unfold inN at this;omega
   have hyi:(((nsAt ns j).toNat:Nat):Int)=nsAt ns j:=by have:=q.1;unfold inN at this;omega
   obtain⟨i1,i2⟩:=ih _ hy;have i2:=i2 (by rw[hyi];exact q.2);have h0:=h _ hy;have e:(cnT N ns c0 j).getD (nsAt ns j).toNat 0=nsAt c0 (nsAt ns j).toNat:=i2;rw[e,wrap_ok (by omega)];unfold gset;rw[nsAt_set _ _ (by omega)];by_cases c:x=(nsAt ns j).toNat
   ·rw[if_pos c];refine⟨⟨by omega,by omega⟩,fun hn=>absurd ?_ hn⟩;rw[take_at (by omega),c,hyi];simp
   ·rw[if_neg c];obtain⟨j1,j2⟩:=ih x hx;refine⟨j1,fun hn=>j2 fun hm=>hn ?_⟩;rw[take_at (by omega)];exact List.mem_append_left _ hm
  ·rw[if_neg q];obtain⟨j1,j2⟩:=ih x hx;refine⟨j1,fun hn=>j2 fun hm=>hn ?_⟩;rw[take_at (by omega)];exact List.mem_append_left _ hm
theorem ldT_bd (N:Nat)(rs:List Rt)(skip:Int):∀k:Nat,k<=1000->∀x,x<N->0<=nsAt (ldT N rs skip k) x/\nsAt (ldT N rs skip k) x<=k:=by
 intro k
 induction k with
 | zero=>intro _ x hx;unfold ldT;rw[nsAt_rep N 0 hx];simp
 | succ k ih=>
  intro hk x hx;have ih:=ih (by omega);unfold ldT;split
  ·have:=ih x hx;omega
  ·have:=(cnT_bd (ns:=(rs.getD k ([],[])).1) (M:=(k:Int)) (ldT_len N rs skip k) (by omega) ih _ (Nat.le_refl _) x hx).1;omega
def sqV (cs ld:List Int)(p:Int)(i:Nat):Int:=
 if wrap .i64 (wrap .i64 (10+cs.getD i 0)+wrap .i64 (p*ld.getD i 0))<100000 then wrap .i64 (wrap .i64 (10+cs.getD i 0)+wrap .i64 (p*ld.getD i 0))else 100000
def sqT (cs ld:List Int)(p:Int)(n:Nat):List Int:=(List.range n).map (sqV cs ld p)
theorem sqT_succ (cs ld:List Int)(p:Int)(n:Nat):sqT cs ld p (n+1)=sqT cs ld p n++[sqV cs ld p n]:=by
 unfold sqT;rw[List.range_succ,List.map_append];rfl
theorem sqT_len (cs ld:List Int)(p:Int)(n:Nat):(sqT cs ld p n).length=n:=by simp[sqT]
theorem shc_spec (cs ld:List Int)(p:Int)(h:cs.length=ld.length)(hl:ld.length<=1048576):spec_l34Costs (cs,(ld,p))=some (sqT cs ld p ld.length):=by
 unfold spec_l34Costs;dsimp only;refine loop_upto ld.length (fun k=>((k:Int),sqT cs ld p k)) (fun k hk=> ?_) ?_
 ·have hs:=sqT_len cs ld p k;dsimp only;rw[dt (by omega),cond_true,gget_some (xs:=cs) (by omega) (by omega),gget_some (xs:=ld) (by omega) (by omega),sqT_succ,wrap_ok (z:=(k:Int)+1) (by omega)];simp only[Option.bind_some,Int.toNat_natCast];rw[gapp_ok (by simp;omega)];rfl
 ·dsimp only;rw[df (by omega),cond_false];rfl
theorem shc_impl (cs ld:List Int)(p:Int)(h:cs.length=ld.length)(hl:ld.length<=1048576):impl_sharedCosts (cs,(ld,p))=some (sqT cs ld p ld.length):=by
 unfold impl_sharedCosts;dsimp only;refine loop_upto ld.length (fun k=>(sqT cs ld p k,(k:Int))) (fun k hk=> ?_) ?_
 ·have hs:=sqT_len cs ld p k;dsimp only;rw[dt (by omega),cond_true,gget_some (xs:=cs) (by omega) (by omega),gget_some (xs:=ld) (by omega) (by omega),sqT_succ,wrap_ok (z:=(k:Int)+1) (by omega)];simp only[Option.bind_some,Int.toNat_natCast];rw[gapp_ok (by simp;omega)];rfl
 ·dsimp only;rw[df (by omega),cond_false];rfl
def HsOk (N:Nat)(B:Int)(h:List Int):Prop:=h.length=N/\∀x,x<N->0<=nsAt h x/\nsAt h x<=B
theorem sq_cs {N:Nat}{h ld:List Int}{p:Int}(hh:HsOk N 1000000 h)(hp:0<=p/\p<=1000)(hl:ld.length=N)(hld:∀x,x<N->0<=nsAt ld x/\nsAt ld x<=1000):CsOk N (sqT h ld p N):=by
 refine⟨sqT_len _ _ _ _,fun v hv=> ?_⟩;have h1:=hh.2 v hv;have h2:=hld v hv;have e:nsAt (sqT h ld p N) v=sqV h ld p v:=by
  unfold nsAt sqT;rw[List.getD,List.getElem?_map,List.getElem?_range hv];rfl
 rw[e];unfold sqV
 change 0<=h.getD v 0/\h.getD v 0<=_ at h1
 change 0<=ld.getD v 0/\ld.getD v 0<=_ at h2
 have h3:0<=p*ld.getD v 0:=Int.mul_nonneg hp.1 h2.1;have h4:p*ld.getD v 0<=1000*1000:=Int.mul_le_mul hp.2 h2.2 h2.1 (by omega);rw[wrap_ok (z:=10+h.getD v 0) (by omega),wrap_ok (z:=p*ld.getD v 0) (by omega),wrap_ok (by omega)];split<;>omega
end Go.Pf
/-
  Own work. Separation: what is reached without a set of wires, plainly.
-/
namespace Go.Pf
open Go Go.Pu
set_option linter.unusedVariables false
theorem outPin_node {d:Dev}{t k:Int}(h:0<=outPinP d t k):DOk d/\outPinP d t k<nodesN d/\nPin d (outPinP d t k)<7:=by
 unfold outPinP at h;split at h
 rotate_left
 ·omega
 rename_i q;have ho:=outP_le (tk d t);obtain⟨hd,t0,t1,_,q0,q1⟩:=tk_in (d:=d) (t:=t) (ho.2.2 (by omega));have hp:=per_le hd;have hm:=mul_le36 hd.1 hd.2.1;have h4:(t+1)*per d<=d.1*d.2.1*per d:=Int.mul_le_mul_of_nonneg_right (by omega) (by omega);rw[Int.add_mul,Int.one_mul]at h4;have e:outPinP d t k=t*per d+(5+k):=by unfold outPinP;rw[if_pos q];omega
 refine⟨hd,?_,?_⟩
 ·unfold nodesN;omega
 ·unfold nPin;rw[e,Int.add_comm,Int.add_mul_emod_self_right,Int.emod_eq_of_lt (by omega) (by omega)];omega
theorem gnil_ok (xs:List Int):gnil true xs=some xs.isEmpty:=rfl
def wsOk (d:Dev)(xs:List Int)(k:Nat):Prop:=isWireP d (nsAt xs k)/\(0<k->nsAt xs (k - 1)<nsAt xs k)
instance (d:Dev)(xs:List Int)(k:Nat):Decidable (wsOk d xs k):=by unfold wsOk;exact inferInstance
end Go.Pf
/-
  Own work. A grown route is a legal route.
-/
namespace Go.Pf
open Go Go.Pu
set_option linter.unusedVariables false
theorem srcs_pin {d:Dev}{n x:Int}(h:x∈srcsP d n):5<=nPin d x:=by
 have hr:=srcs_rn h;have hd:=hr.1;have hT:=hd.2.2.1;have hp:=per_le hd;obtain⟨⟨ht0,ht1⟩,_,_⟩:=node_tp hd hr.2.1 hr.2.2.1;unfold srcsP at h;split at h
 rotate_left
 ·simp at h
 rcases mem_insL.1 h with h | h
 ·simp at h
 unfold rawN at h;rcases List.mem_append.1 h with h | h
 ·unfold s0P at h;split at h
  ·have:x=nTile d n*per d+5\/x=nTile d n*per d+6:=by
    unfold outsP at h;split at h<;>simp at h<;>omega
   unfold nPin;rcases this with e | e
   ·rw[e,Int.add_comm,Int.add_mul_emod_self_right,Int.emod_eq_of_lt (by omega) (by omega)];omega
   ·rw[e,Int.add_comm,Int.add_mul_emod_self_right,Int.emod_eq_of_lt (by omega) (by omega)];omega
  ·simp at h
 ·obtain⟨dir,q0,h⟩:=mem_fm.1 h;obtain⟨t2,q2,h⟩:=mem_fm.1 h;obtain⟨i2,h⟩:=mem_candP h;have:=(oneP_dec hd q0 (by omega) h).2.2.1;omega
theorem outPin_rn {d:Dev}{t k:Int}(h:0<=outPinP d t k):rnOkP d (outPinP d t k)/\(nPin d (outPinP d t k)=5\/nPin d (outPinP d t k)=6):=by
 have h0:=h;obtain⟨n1,n2,n3⟩:=outPin_node h;unfold outPinP at h;split at h
 rotate_left
 ·omega
 rename_i q;have ho:=outP_le (tk d t);obtain⟨hd,t0,t1,t2,q0,q1⟩:=tk_in (d:=d) (t:=t) (ho.2.2 (by omega));have hp:=per_le hd;have e:outPinP d t k=t*per d+(5+k):=by unfold outPinP;rw[if_pos q];omega
 have ep:nPin d (outPinP d t k)=5+k:=by unfold nPin;rw[e,Int.add_comm,Int.add_mul_emod_self_right,Int.emod_eq_of_lt (by omega) (by omega)]
 have et:nTile d (outPinP d t k)=t:=by unfold nTile;rw[e,Int.add_comm,Int.add_mul_ediv_right _ _ (by omega),Int.ediv_eq_zero_of_lt (by omega) (by omega)];omega
 refine⟨⟨hd,h0,n2,?_⟩,by omega⟩;rw[ep,et,if_neg (by omega),if_pos (by omega),<-t2];omega
theorem src_rn {d:Dev}{ps:List Int}{p:Pin}(h:0<=srcP d ps p):rnOkP d (srcP d ps p)/\(nPin d (srcP d ps p)=5\/nPin d (srcP d ps p)=6):=by
 unfold srcP at*;split at h
 ·rename_i q;rw[if_pos q];exact outPin_rn h
 ·omega
theorem nsAt_l {xs ys:List Int}{i:Nat}(h:i<xs.length):nsAt (xs++ys) i=nsAt xs i:=by
 unfold nsAt;rw[List.getD,List.getD,List.getElem?_append_left h]
theorem nsAt_r {xs ys:List Int}{n j:Nat}(h:xs.length=n):nsAt (xs++ys) (n+j)=nsAt ys j:=by
 unfold nsAt;rw[List.getD,List.getD,List.getElem?_append_right (by omega),show n+j - xs.length=j by omega]
theorem nsAt_in {xs:List Int}{i:Nat}(h:i<xs.length):nsAt xs i∈xs:=by rw[<-ns_at h];exact List.getElem_mem h
theorem pars_at (idx:Int)(L:Nat):∀n j,j<n->nsAt (pars idx L n) j=if j=0 then idx else((L+j:Nat):Int) - 1
 | 0,j,h=>by omega
 | n+1,j,h=>by
  unfold pars;by_cases c:j<n
  ·rw[nsAt_l (by rw[pars_len];exact c)];exact pars_at idx L n j c
  ·have e:j=n+0:=by omega
   rw[e,nsAt_r (pars_len idx L n)];rfl
theorem lastAt_ok (ns:List Int)(a:Int):∀k,k<=ns.length->a∈ns.take k->∃i:Nat,i<k/\lastAt ns a k=(i:Int)/\nsAt ns i=a
 | 0,_,h=>by simp at h
 | k+1,hk,h=>by
  rw[lastAt_succ];by_cases c:nsAt ns k=a
  ·rw[if_pos c];exact⟨k,by omega,rfl,c⟩
  ·rw[if_neg c];rw[take_at (by omega)]at h;rcases List.mem_append.1 h with q | q
   ·obtain⟨i,i1,i2,i3⟩:=lastAt_ok ns a k (by omega) q;exact⟨i,by omega,i2,i3⟩
   ·exact absurd (List.mem_singleton.1 q).symm c
theorem nodup_at {ns:List Int}(h:ns.Nodup){k:Nat}(hk:k<ns.length):nsAt ns k∉ns.take k:=by
 intro hm;obtain⟨j,hj,e⟩:=List.getElem_of_mem hm;rw[List.length_take]at hj;rw[List.getElem_take,<-ns_at hk]at e;have:=(List.getElem_inj h).1 e;omega
def GL (d:Dev)(src:Int)(snks:List Int)(k:Nat)(st:List Int×List Int):Prop:=
 st.1≠[]/\nsAt st.1 0=src/\nsAt st.2 0=0/\(∀i,1<=i->i<st.1.length->(0<=nsAt st.2 i/\nsAt st.2 i<(i:Int))/\pAt st.1 (nsAt st.2 i)∈srcsP d (nsAt st.1 i)/\(nPin d (nsAt st.1 i)<5->nsAt st.1 i∈snks))/\∀j,j<k->nsAt snks j∈st.1
theorem gl_start (d:Dev)(src:Int)(snks:List Int):GL d src snks 0 ([src],[0]):=⟨by simp,rfl,rfl,fun i h1 h2=>by simp at h2;omega,fun j hj=>by omega⟩
theorem gl_step {d:Dev}{src:Int}{snks:List Int}{k:Nat}{st st' :List Int×List Int}(hk:k<snks.length)(h1:GrowOk (nodesN d).toNat st)(h2:GrowOk (nodesN d).toNat st')(h:GL d src snks k st)(hg:GTo (dG d) (nsAt snks k) st st'):GL d src snks (k+1) st' :=by
 obtain⟨g1,g2,g3,g4,g5⟩:=h;rcases hg with⟨hm,rfl⟩ | ⟨a,t,ha,hc,hl,hne,rfl⟩
 ·refine⟨g1,g2,g3,g4,fun j hj=> ?_⟩;by_cases e:j=k
  ·rw[e];exact hm
  ·exact g5 j (by omega)
 obtain⟨ns,ps⟩:=st;have hlen:=h1.2.2;have hrg:=h2.2.1;simp only at ha g1 g2 g3 g4 g5 hlen hrg ⊢;have hL:0<ns.length:=List.length_pos_iff.2 g1;have ht:0<t.length:=List.length_pos_iff.2 hne;have hlast:nsAt t (t.length - 1)=nsAt snks k:=by
  rw[List.getLast?_eq_getElem?]at hl;have e:(a::t)[(a::t).length - 1]? =t[t.length - 1]? :=by
   rw[show(a::t).length - 1=(t.length - 1)+1 by simp only[List.length_cons];omega,List.getElem?_cons_succ]
  rw[e]at hl;unfold nsAt;rw[List.getD,hl];rfl
 have hch:∀j,j<t.length->nsAt (a::t) j∈srcsP d (nsAt t j):=fun j hj=>by
  have e:=Chn.at (a::t) j hc (by simp only[List.length_cons];omega);have e2:nsAt (a::t) (j+1)=nsAt t j:=rfl;rw[e2]at e;have hr:=hrg (nsAt t j) (List.mem_append_right _ (nsAt_in hj));rw[dG_at d (by omega)]at e;rw[show(((nsAt t j).toNat:Nat):Int)=nsAt t j by omega]at e;exact e
 refine⟨by simp[g1],?_,?_,fun i hi1 hi2=> ?_,fun j hj=> ?_⟩
 ·rw[nsAt_l hL];exact g2
 ·rw[nsAt_l (by omega)];exact g3
 ·by_cases c:i<ns.length
  ·obtain⟨q1,q2,q3⟩:=g4 i hi1 c;rw[nsAt_l c,nsAt_l (by omega)];refine⟨q1,?_,q3⟩;have e:pAt (ns++t) (nsAt ps i)=pAt ns (nsAt ps i):=nsAt_l (by omega);rw[e];exact q2
  ·obtain⟨j,rfl⟩:∃j,i=ns.length+j:=⟨i - ns.length,by omega⟩;have hj:j<t.length:=by rw[List.length_append]at hi2;omega
   rw[nsAt_r rfl,nsAt_r hlen,pars_at _ _ _ _ hj];have hcj:=hch j hj;refine⟨?_,?_,fun h5=> ?_⟩
   ·by_cases c0:j=0
    ·rw[if_pos c0];obtain⟨i0,q1,q2,q3⟩:=lastAt_ok ns a ns.length (Nat.le_refl _) (by rw[List.take_length];exact ha);rw[q2];omega
    ·rw[if_neg c0];omega
   ·by_cases c0:j=0
    ·subst c0;rw[if_pos rfl];obtain⟨i0,q1,q2,q3⟩:=lastAt_ok ns a ns.length (Nat.le_refl _) (by rw[List.take_length];exact ha);have e:pAt (ns++t) (lastAt ns a ns.length)=a:=by
      rw[q2,<-q3];exact nsAt_l q1
     rw[e];exact hcj
    ·rw[if_neg c0];have e:pAt (ns++t) (((ns.length+j:Nat):Int) - 1)=nsAt (a::t) j:=by
      unfold pAt;rw[show(((ns.length+j:Nat):Int) - 1).toNat=ns.length+(j - 1)by omega];have:=nsAt_r (xs:=ns) (ys:=t) (j:=j - 1) rfl;unfold nsAt at this ⊢;rw[this];obtain⟨j',rfl⟩:∃j',j=j' +1:=⟨j - 1,by omega⟩;rfl
     rw[e];exact hcj
   ·by_cases c1:j+1<t.length
    ·have:=srcs_pin (hch (j+1) c1);have e:nsAt (a::t) (j+1)=nsAt t j:=rfl;rw[e]at this;omega
    ·rw[show j=t.length - 1 by omega,hlast];exact nsAt_in hk
 ·by_cases e:j=k
  ·rw[e,<-hlast];exact List.mem_append_right _ (nsAt_in (by omega))
  ·exact List.mem_append_left _ (g5 j (by omega))
theorem gl_ro {d:Dev}{src:Int}{snks:List Int}{st:List Int×List Int}(hr:rnOkP d src)(hp:nPin d src=5\/nPin d src=6)(h1:GrowOk (nodesN d).toNat st)(h:GL d src snks snks.length st):roP d src snks st.1 st.2=true:=by
 obtain⟨ns,ps⟩:=st;obtain⟨g1,g2,g3,g4,g5⟩:=h;have hlen:=h1.len;obtain⟨hnd,hrg,hpl⟩:=h1;simp only at g1 g2 g3 g4 g5 hlen hnd hrg hpl ⊢;have hL:0<ns.length:=List.length_pos_iff.2 g1;have hd:=hr.1;have hn:=nodesN_le hd;unfold roP;rw[if_pos ⟨⟨by omega,by unfold rnN;rw[if_pos hd];omega⟩,hpl⟩,if_pos (List.all_eq_true.2 fun k hk=>decide_eq_true ?_)]
 ·unfold allIn;rw[List.all_eq_true];intro s hs;obtain⟨j,hj,rfl⟩:=nsAt_mem hs;exact decide_eq_true (g5 j hj)
 ·have hk:=List.mem_range.1 hk;by_cases k0:k=0
  ·subst k0;refine⟨by rw[g2];exact hr,by simp,?_⟩;rw[if_pos rfl];exact⟨g2,g3,by rw[g2];exact hp⟩
  ·obtain⟨q1,q2,q3⟩:=g4 k (by omega) hk;refine⟨srcs_rn q2,nodup_at hnd hk,?_⟩;rw[if_neg k0];exact⟨q1,q2,q3⟩
end Go.Pf
/-
  Own work. Routing all connections, plainly: one round over the connections.
-/
namespace Go.Pf
open Go Go.Pu
set_option linter.unusedVariables false
abbrev RO:=(Int×(List Int×List Rt))⊕(List Rt×Bool)
abbrev SO:=(Int×(List Rt×List Int))⊕(List Rt×Bool)
noncomputable def rkI (v16:Int)(srcs:List Int)(snks:List (List Int))(hist:List Int)(i:Int)(GR:List (List Int)×List (List Int))(K:List Rt->Option RO):(Int×List Rt)->Option ((Int×List Rt)⊕RO):=(fun(v17:(Int×List (List Int×List Int)))=>
 let v18:Bool:=decide (v17.1<v16)
 bif v18 then(
  (gslice v17.2 0 v17.1).bind fun v19=>
  let v20:Int:=wrap .i64 (v17.1+1)
  (gslice v17.2 v20 ((v17.2).length:Int)).bind fun v21=>
  (gapp 48 ([]:List (List Int×List Int)) v19).bind fun v22=>
  (gapp 48 v22 v21).bind fun v23=>
  let v24:Int:=((hist).length:Int)
  let v25:Int:=wrap .i64 (5*i)
  (gin (srcs).length v17.1).bind fun _=>
  (gget 0 srcs v17.1).bind fun v27=>
  (gin (snks).length v17.1).bind fun _=>
  (gget [] snks v17.1).bind fun v29=>
  (impl_usage (v24,v23)).bind fun v30=>
  (impl_sharedCosts (hist,(v30,v25))).bind fun v31=>
  (impl_growRoute (GR,(v31,(v27,v29)))).bind fun v32=>
  let v33:Bool:= !v32.2
  bif v33 then(
   Option.map Sum.inr (
    Option.map Sum.inr (
     some (([]:List (List Int×List Int)),false))))else
  (gin (v17.2).length v17.1).bind fun _=>
  (gget ([],[]) v17.2 v17.1).bind fun v35=>
  let v36:(List Int×List Int):=v32.1
  let v37:List (List Int×List Int):=gset v17.2 v17.1 v36
  let v38:Int:=wrap .i64 (v17.1+1)
  some (.inl (v38,v37)))else
 Option.map Sum.inr (K v17.2))
noncomputable def rkS (d:Dev)(ps:List Int)(cs:List Conn)(hist:List Int)(i:Int)(G:List (List Int))(K:List Rt->Option SO):(Int×List Rt)->Option ((Int×List Rt)⊕SO):=(fun(v16:(Int×List (List Int×List Int)))=>
 let v17:Int:=((cs).length:Int)
 let v18:Bool:=decide (v16.1<v17)
 bif v18 then(
  let v19:Int:=((G).length:Int)
  (spec_l34Load (v19,(v16.2,v16.1))).bind fun v20=>
  let v21:Int:=wrap .i64 (5*i)
  (spec_l34Costs (hist,(v20,v21))).bind fun v22=>
  (gget (0,((0,0),[])) cs v16.1).bind fun v23=>
  (gget (0,((0,0),[])) cs v16.1).bind fun v24=>
  (spec_SourceNode (d,(ps,v23))).bind fun v25=>
  (spec_SinkNodes (d,(ps,v24))).bind fun v26=>
  (spec_l33Grow (G,(v22,(v25,v26)))).bind fun v27=>
  let v28:Bool:= !v27.2
  bif v28 then(
   Option.map Sum.inr (
    Option.map Sum.inr (
     some (([]:List (List Int×List Int)),false))))else
  (gin (v16.2).length v16.1).bind fun _=>
  (gget ([],[]) v16.2 v16.1).bind fun v30=>
  let v31:(List Int×List Int):=v27.1
  let v32:List (List Int×List Int):=gset v16.2 v16.1 v31
  let v33:Int:=wrap .i64 (v16.1+1)
  some (.inl (v33,v32)))else
 Option.map Sum.inr (K v16.2))
def RtInv (n:Nat)(rs:List Rt):Prop:=rs.length=n/\∀r∈rs,r.1.length<=828/\r.2.length<=828
theorem RtInv.ok {n:Nat}(hn:n<=1000){rs:List Rt}(h:RtInv n rs):RtsOk rs:=⟨by rw[h.1];omega,fun r hr=>by have:=h.2 r hr;exact⟨by omega,by omega⟩⟩
theorem loop_end {σ ω:Type}{f:σ->Option (σ⊕ω)}{s:σ}{X:Option ω}(h:f s=Option.map Sum.inr X):loop f s=X:=by
 rw[loop_eq,h];cases X<;>rfl
theorem loop_inl' {σ ω:Type}{f:σ->Option (σ⊕ω)}{s s' :σ}(h:f s=some (.inl s')):loop f s=loop f s' :=by rw[loop_eq,h]
theorem loop_inr' {σ ω:Type}{f:σ->Option (σ⊕ω)}{s:σ}{o:ω}(h:f s=some (.inr o)):loop f s=some o:=by rw[loop_eq,h]
theorem srcP_node {d:Dev}{ps:List Int}{p:Pin}(h:0<=srcP d ps p):srcP d ps p<nodesN d:=by
 unfold srcP at h ⊢;split at h
 ·rename_i q;rw[if_pos q];exact(outPin_node h).2.1
 ·omega
def cnAt (cs:List Conn)(k:Nat):Conn:=cs.getD k (0,((0,0),[]))
theorem cn_get {cs:List Conn}{k:Nat}(h:k<cs.length):gget ((0,((0,0),[])):Conn) cs (k:Int)=some (cnAt cs k)/\cnAt cs k∈cs:=by
 have e:cnAt cs k=cs[k]:=by unfold cnAt;rw[List.getD,List.getElem?_eq_getElem h];rfl
 rw[e];exact⟨gget_nat h,List.getElem_mem h⟩
def srcL (d:Dev)(ps:List Int)(cs:List Conn):List Int:=cs.map fun c=>srcP d ps c.2.1
def snkL (d:Dev)(ps:List Int)(cs:List Conn):List (List Int):=cs.map fun c=>snksP d ps c.2.2
theorem srcL_at (d:Dev)(ps:List Int){cs:List Conn}{k:Nat}(h:k<cs.length):gget 0 (srcL d ps cs) (k:Int)=some (srcP d ps (cnAt cs k).2.1):=by
 have e:cnAt cs k=cs[k]:=by unfold cnAt;rw[List.getD,List.getElem?_eq_getElem h];rfl
 rw[gget_nat (by unfold srcL;rw[List.length_map];exact h),e];simp[srcL]
theorem snkL_at (d:Dev)(ps:List Int){cs:List Conn}{k:Nat}(h:k<cs.length):gget [] (snkL d ps cs) (k:Int)=some (snksP d ps (cnAt cs k).2.2):=by
 have e:cnAt cs k=cs[k]:=by unfold cnAt;rw[List.getD,List.getElem?_eq_getElem h];rfl
 rw[gget_nat (by unfold snkL;rw[List.length_map];exact h),e];simp[snkL]
theorem gsliceR_pre {xs:List Rt}{k:Nat}(h:k<=xs.length):gslice xs 0 (k:Int)=some (xs.take k):=by
 unfold gslice;rw[if_pos ⟨by omega,by omega,by omega⟩];simp
theorem gsliceR_suf {xs:List Rt}{k:Nat}(h:k<=xs.length):gslice xs (k:Int) (xs.length:Int)=some (xs.drop k):=by
 unfold gslice;rw[if_pos ⟨by omega,by omega,by omega⟩];simp
theorem gapp48r {xs ys:List Rt}(h:xs.length+ys.length<=1000000000):gapp 48 xs ys=some (xs++ys):=gapp_some (by omega) (by omega)
def LG (d:Dev)(ps:List Int)(cs:List Conn)(k:Nat)(r:Rt):Prop:=roP d (srcP d ps (cnAt cs k).2.1) (snksP d ps (cnAt cs k).2.2) r.1 r.2=true
theorem rk_runC {d:Dev}{ps:List Int}{cs:List Conn}(hd:DOk d)(hp:PsR ps)(hpl:ps.length<=1048576)(hcs:cs.length<=100)(hcl:∀c∈cs,c.2.2.length<=1048576){R:List (List Int)}(hR:RevOk (nodesN d).toNat (dG d) R)
 (hsrc:∀c∈cs,0<=srcP d ps c.2.1) {hist:List Int} (hh:HsOk (nodesN d).toNat 1000000 hist) {i:Int} (hi:1<=i/\i<=12) (KI:List Rt->Option RO) (KS:List Rt->Option SO):
 ∀(m k:Nat) (rs:List Rt),k+m=cs.length->RtInv cs.length rs->
  (loop (rkI (cs.length:Int) (srcL d ps cs) (snkL d ps cs) hist i (dG d,R) KI) ((k:Int),rs)=some (.inr ([],false))/\loop (rkS d ps cs hist i (dG d) KS) ((k:Int),rs)=some (.inr ([],false)))\/
  ∃rs',RtInv cs.length rs'∧((∀j,j<k->LG d ps cs j (rs.getD j ([],[])))->∀j,j<cs.length->LG d ps cs j (rs'.getD j ([],[])))/\loop (rkI (cs.length:Int) (srcL d ps cs) (snkL d ps cs) hist i (dG d,R) KI) ((k:Int),rs)=KI rs'∧loop (rkS d ps cs hist i (dG d) KS) ((k:Int),rs)=KS rs'
 | 0,k,rs,hm,hrs=>by
  have e:k=cs.length:=by omega
  subst e
  right
  refine⟨rs,hrs,fun h=>h,loop_end ?_,loop_end ?_⟩
  ·unfold rkI
   try dsimp only
   rw[df (by omega),cond_false]
  ·unfold rkS
   try dsimp only
   rw[df (by omega),cond_false]
 | m+1,k,rs,hm,hrs=>by
  have hk:k<cs.length:=by omega
  have hkr:k<rs.length:=by rw[hrs.1];exact hk
  obtain⟨g1,g2⟩:=cn_get hk;have hn:=nodesN_le hd;have hN:((nodesN d).toNat:Int)=nodesN d:=by omega
  have hG:=dG_ok hd;have hGl:((dG d).length:Int)=((nodesN d).toNat:Int):=by rw[hG.1]
  have hs0:=hsrc _ g2;have hs1:=srcP_node hs0;have hsl:=snks_len d ps (cnAt cs k).2.2;have hcc:=hcl _ g2;have hrl:rs.length<=100:=by rw[hrs.1];exact hcs
  have hld:=ldT_bd (nodesN d).toNat rs (k:Int) rs.length (by omega);have hll:=ldT_len (nodesN d).toNat rs (k:Int) rs.length;have hcst:=sq_cs (p:=5*i) hh (by omega) hll (fun x hx=>by have:=hld x hx;omega);have hst:GrowOk (nodesN d).toNat ([srcP d ps (cnAt cs k).2.1],[0]):=⟨by simp,fun x hx=>by have hx:=List.mem_singleton.1 hx;omega,rfl⟩;obtain⟨o,o1,o2,o3,o4⟩:=grow_bothC hG hR hcst (snksP d ps (cnAt cs k).2.2) (by omega) (GL d (srcP d ps (cnAt cs k).2.1) (snksP d ps (cnAt cs k).2.2)) (fun k st st' a b c e f=>gl_step a b c e f) (snksP d ps (cnAt cs k).2.2).length 0 ([srcP d ps (cnAt cs k).2.1],[0]) (by omega) hst (by simp);have e1:spec_l33Grow (dG d,(sqT hist (ldT (nodesN d).toNat rs (k:Int) rs.length) (5*i) (nodesN d).toNat,(srcP d ps (cnAt cs k).2.1,snksP d ps (cnAt cs k).2.2)))=some o:=o1;have e2:impl_growRoute ((dG d,R),(sqT hist (ldT (nodesN d).toNat rs (k:Int) rs.length) (5*i) (nodesN d).toNat,(srcP d ps (cnAt cs k).2.1,snksP d ps (cnAt cs k).2.2)))=some o:=o2;have hus:impl_usage ((hist.length:Int),rs.take k++rs.drop (k+1))=some (ldT (nodesN d).toNat rs (k:Int) rs.length):=by
   rw[hh.1,usage_impl _ _ (by omega),ld_without _ rs hkr];have hok:=hrs.ok (by omega);refine⟨by rw[List.length_append,List.length_take,List.length_drop];omega,fun r hr=> ?_⟩;rcases List.mem_append.1 hr with q | q
   ·exact hok.2 r (List.mem_of_mem_take q)
   ·exact hok.2 r (List.mem_of_mem_drop q)
  have hlo:spec_l34Load (((dG d).length:Int),(rs,(k:Int)))=some (ldT (nodesN d).toNat rs (k:Int) rs.length):=by
   rw[hGl];exact load_spec _ rs _ (by omega) (hrs.ok (by omega))
  have hci:impl_sharedCosts (hist,(ldT (nodesN d).toNat rs (k:Int) rs.length,5*i))=some (sqT hist (ldT (nodesN d).toNat rs (k:Int) rs.length) (5*i) (nodesN d).toNat):=by
   rw[shc_impl _ _ _ (by rw[hh.1,hll]) (by rw[hll];omega),hll]
  have hcs' :spec_l34Costs (hist,(ldT (nodesN d).toNat rs (k:Int) rs.length,5*i))=some (sqT hist (ldT (nodesN d).toNat rs (k:Int) rs.length) (5*i) (nodesN d).toNat):=by
   rw[shc_spec _ _ _ (by rw[hh.1,hll]) (by rw[hll];omega),hll]
  have fI:∀(b:Bool),o.2=b->rkI (cs.length:Int) (srcL d ps cs) (snkL d ps cs) hist i (dG d,R) KI ((k:Int),rs)=some (if b then .inl (((k+1:Nat):Int),rs.set k o.1)else .inr (.inr ([],false))):=fun b hb=>by
   unfold rkI
   try dsimp only
   rw[dt (show(k:Int)<(cs.length:Int)by omega),cond_true,gsliceR_pre (by omega),wrap_ok (z:=(k:Int)+1) (by omega)];simp only[Option.bind_some];rw[show(k:Int)+1=((k+1:Nat):Int)from rfl,gsliceR_suf (by omega)];simp only[Option.bind_some];rw[gapp48r (by simp;omega)];simp only[Option.bind_some,List.nil_append];rw[gapp48r (by rw[List.length_take,List.length_drop];omega),wrap_ok (z:=5*i) (by omega)];simp only[Option.bind_some];rw[gin_nat (show k<(srcL d ps cs).length by unfold srcL;rw[List.length_map];exact hk),srcL_at d ps hk,gin_nat (show k<(snkL d ps cs).length by unfold snkL;rw[List.length_map];exact hk),snkL_at d ps hk];simp only[Option.bind_some];rw[hus];simp only[Option.bind_some];rw[hci];simp only[Option.bind_some];rw[e2];simp only[Option.bind_some];rw[hb];cases b with
   | false=>rfl
   | true=>
    rw[Bool.not_true,cond_false,gin_nat hkr,gget_nat hkr];simp only[Option.bind_some];rw[gset_nat];rfl
  have fS:∀(b:Bool),o.2=b->rkS d ps cs hist i (dG d) KS ((k:Int),rs)=some (if b then .inl (((k+1:Nat):Int),rs.set k o.1)else .inr (.inr ([],false))):=fun b hb=>by
   unfold rkS
   try dsimp only
   rw[dt (show(k:Int)<(cs.length:Int)by omega),cond_true,hlo];simp only[Option.bind_some];rw[wrap_ok (z:=5*i) (by omega),hcs'];simp only[Option.bind_some];rw[g1];simp only[Option.bind_some];rw[src_spec d ps _ hp,snks_spec d ps _ hp hcc];simp only[Option.bind_some];rw[e1];simp only[Option.bind_some];rw[hb];cases b with
   | false=>rfl
   | true=>
    rw[Bool.not_true,cond_false,gin_nat hkr,gget_nat hkr];simp only[Option.bind_some];rw[gset_nat,wrap_ok (by omega)];rfl
  cases hb:o.2 with
  | false=>
   left
   exact⟨loop_inr' (fI false hb),loop_inr' (fS false hb)⟩
  | true=>
   have hrs' :RtInv cs.length (rs.set k o.1):=by
    refine⟨by rw[List.length_set];exact hrs.1,fun r hr=> ?_⟩;rcases List.mem_or_eq_of_mem_set hr with q | q
    ·exact hrs.2 r q
    ·subst q;rcases o3 with o3 | o3
     ·have:=o3.len;have:=o3.2.2;omega
     ·rw[o3];simp
   have hI:=fI true hb;have hS:=fS true hb;rw[if_pos rfl]at hI hS;have hlg:LG d ps cs k o.1:=by
    obtain⟨p1,p2⟩:=o4 (gl_start _ _ _) hb;have hsr:=src_rn hs0;exact gl_ro hsr.1 hsr.2 p1 p2
   rcases rk_runC hd hp hpl hcs hcl hR hsrc hh hi KI KS m (k+1) (rs.set k o.1) (by omega) hrs' with⟨q1,q2⟩ | ⟨rs',q0,q3,q1,q2⟩
   ·left
    exact⟨(loop_inl' hI).trans q1,(loop_inl' hS).trans q2⟩
   ·right
    refine⟨rs',q0,fun hj=>q3 fun j hj2=> ?_,(loop_inl' hI).trans q1,(loop_inl' hS).trans q2⟩;by_cases e:j=k
    ·subst e;rw[List.getD_eq_getElem?_getD,List.getElem?_set_self hkr];exact hlg
    ·rw[List.getD_eq_getElem?_getD,List.getElem?_set_ne (by omega),<-List.getD_eq_getElem?_getD];exact hj j (by omega)
end Go.Pf
