/-
  Own work: parts Pcq, Drw, Tot, Nta, Ntc, Ntd, Nte, Ntf, Ntg, Nth, Ntk, Ntl, LawFnPackKeeps, plain lemmas.
-/
import Derived.Test.YtjpkedhcbnklmaaQ0
import Derived.Test.YtjpkedhcbnklmaaD
/-
  Own work. Packings, plainly: every table and every flip-flop once.
-/
namespace Go.Pf
open Go Go.Pu
set_option linter.unusedVariables false
theorem bAu_put {U:List Bool}{i:Int}(h0:0<=i)(h1:i<(U.length:Int))(j:Nat):bAu (gset U i true) j=if i=(j:Int)then true else bAu U j:=by
 unfold bAu gset;by_cases h:i=(j:Int)
 ·subst h;rw[if_pos rfl,List.getD,Int.toNat_natCast,List.getElem?_set_self (by omega)];rfl
 ·rw[if_neg h,List.getD,List.getElem?_set_ne (by omega)];rfl
theorem fmr_len {f:Nat->List Int}{m:Nat}:∀k,(∀j,j<k->(f j).length<=m)->((List.range k).flatMap f).length<=m*k
 | 0,_=>by simp
 | k+1,h=>by
  have h1:=fmr_len k (fun j hj=>h j (by omega));have h2:=h k (by omega);rw[List.range_succ,List.flatMap_append,List.length_append,Nat.mul_succ];simp only[List.flatMap_cons,List.flatMap_nil,List.append_nil];omega
theorem cnt_mem {xs:List Int}{x:Int}(h:x∈xs):1<=xs.count x:=List.count_pos_iff.2 h
theorem cnt_two {f:Nat->List Int}{x:Int}{a b:Nat}(hab:a<b)(ha:x∈f a)(hb:x∈f b):∀m,b<m->2<=((List.range m).flatMap f).count x
 | 0,h=>by omega
 | m+1,h=>by
  rw[List.range_succ,List.flatMap_append,List.count_append];simp only[List.flatMap_cons,List.flatMap_nil,List.append_nil];by_cases c:b=m
  ·subst c;have h1:=cnt_mem hb;have h2:=cnt_mem (show x∈(List.range b).flatMap f from List.mem_flatMap.2 ⟨a,List.mem_range.2 hab,ha⟩);omega
  ·have:=cnt_two hab ha hb m (by omega);omega
theorem uses_two {n:Net}(hn:netP n=true){a b:Nat}{x:Int}(hab:a<b)(hb:b<n.2.1.length)(h1:x∈(sqAt n.2.1 a).2.2)(h2:x∈(sqAt n.2.1 b).2.2):nsAt (usesP n) x.toNat≠1:=by
 obtain⟨hln,ho,hs,hl⟩:=netP_all hn;have hv:=lnV_le hln;have hlv:lnV n=fstP n+n.2.2.1.length:=rfl;have hxr:=belowP_mem (hs b hb).2 x h2;have e:usesP n=incL (List.replicate (lnV n).toNat 0) (((List.range n.2.2.1.length).flatMap fun k=>(ltAt n.2.2.1 k).1)++((List.range n.2.1.length).flatMap fun k=>(sqAt n.2.1 k).2.2)++n.2.2.2):=by
  unfold usesP;rw[incA_L,incA_L,incL_app,incL_app]
 have l1:=fmr_len (f:=fun k=>(ltAt n.2.2.1 k).1) (m:=4) n.2.2.1.length (fun j hj=>by
  have:=(hl j hj).1.1;show(ltAt n.2.2.1 j).1.length<=4;omega)
 have l2:=fmr_len (f:=fun k=>(sqAt n.2.1 k).2.2) (m:=4) n.2.1.length (fun j hj=>by
  have:=(hs j hj).1;show(sqAt n.2.1 j).2.2.length<=4;rcases this with q | q<;>omega)
 have hc:=cnt_two (f:=fun k=>(sqAt n.2.1 k).2.2) hab h1 h2 n.2.1.length hb;have hln2:=hln.2.1;have hln3:=hln.2.2.1;have hln4:=hln.2.2.2;generalize hA:((List.range n.2.2.1.length).flatMap fun k=>(ltAt n.2.2.1 k).1)=A at*;generalize hB:((List.range n.2.1.length).flatMap fun k=>(sqAt n.2.1 k).2.2)=B at*;have hin:∀y∈A++B++n.2.2.2,0<=y/\y<(((List.replicate (lnV n).toNat (0:Int)).length:Nat):Int):=fun y hy=>by
  rw[List.length_replicate];rcases List.mem_append.1 hy with hy | hy
  ·rcases List.mem_append.1 hy with hy | hy
   ·rw[<-hA]at hy;obtain⟨j,hj,hy⟩:=List.mem_flatMap.1 hy;have hj:=List.mem_range.1 hj;have:=belowP_mem (hl j hj).2 y hy;omega
   ·rw[<-hB]at hy;obtain⟨j,hj,hy⟩:=List.mem_flatMap.1 hy;have hj:=List.mem_range.1 hj;have:=belowP_mem (hs j hj).2 y hy;omega
  ·have:=belowP_mem ho y hy;omega
 have hcl:=List.count_le_length (a:=((x.toNat:Nat):Int)) (l:=A++B++n.2.2.2);simp only[List.length_append]at hcl;have hr:=nsAt_rep0 (lnV n).toNat x.toNat;rw[e,incL_at _ _ hin x.toNat (by omega) (by omega),hr,List.count_append,List.count_append,show((x.toNat:Nat):Int)=x by omega];omega
theorem elT_step (n:Net)(k:Nat):elT n (k+1)=if(sqAt n.2.1 k).1≠0 then elT n k else
 if 0<=nsAt (sqAt n.2.1 k).2.2 0 - fstP n/\nsAt (usesP n) (nsAt (sqAt n.2.1 k).2.2 0).toNat=1 then
  ((elT n k).1++[(nsAt (sqAt n.2.1 k).2.2 0 - fstP n,(k:Int))],gset (elT n k).2 (nsAt (sqAt n.2.1 k).2.2 0 - fstP n) true)
 else((elT n k).1++[(-1,(k:Int))],(elT n k).2):=rfl
theorem elT_all {n:Net}(hn:netP n=true):∀k,k<=n.2.1.length->(elT n k).1.length+rmP n k=k/\(∀x:Int,((elT n k).1.flatMap lf2).count x=kdC n 0 k x)/\(∀j:Nat,((elT n k).1.flatMap lf1).count (j:Int)=if bAu (elT n k).2 j=true then 1 else 0)/\∀j:Nat,bAu (elT n k).2 j=true->∃a,a<k/\(sqAt n.2.1 a).1=0/\nsAt (sqAt n.2.1 a).2.2 0=fstP n+(j:Int):=by
 obtain⟨hln,ho,hs,hl⟩:=netP_all hn;have hv:=lnV_le hln;have hlv:lnV n=fstP n+n.2.2.1.length:=rfl;have hin:∀k,k<n.2.1.length->(sqAt n.2.1 k).1=0->nsAt (sqAt n.2.1 k).2.2 0∈(sqAt n.2.1 k).2.2:=fun k hk c0=>by
  have hsk:=hs k hk;have hlen:(sqAt n.2.1 k).2.2.length=1:=by rcases hsk.1 with q | q<;>omega
  rw[<-ns_at (show 0<(sqAt n.2.1 k).2.2.length by omega)];exact List.getElem_mem _
 intro k
 induction k with
 | zero=>
  intro _;have hU:∀j,bAu (List.replicate n.2.2.1.length false) j=false:=fun j=>by
   unfold bAu;rw[List.getD,List.getElem?_replicate];split<;>rfl
  refine⟨rfl,fun x=> ?_,fun j=> ?_,fun j hj=> ?_⟩
  ·unfold kdC;rw[if_neg (by omega)];rfl
  ·rw[show(elT n 0).2=List.replicate n.2.2.1.length false from rfl,hU j,if_neg (by simp)];rfl
  ·rw[show(elT n 0).2=List.replicate n.2.2.1.length false from rfl,hU j]at hj;cases hj
 | succ k ih=>
  intro hk;obtain⟨ih1,ih2,ih3,ih4⟩:=ih (by omega);obtain⟨_,hU,_⟩:=elT_ok hn k (by omega);have hsk:=hs k (by omega);have hr:rmP n (k+1)=if(sqAt n.2.1 k).1=1 then rmP n k+1 else rmP n k:=rfl
  have mono:∀j:Nat,bAu (elT n k).2 j=true->∃a,a<k+1/\(sqAt n.2.1 a).1=0/\nsAt (sqAt n.2.1 a).2.2 0=fstP n+(j:Int):=fun j hj=>by
   obtain⟨a,h1,h2⟩:=ih4 j hj;exact⟨a,by omega,h2⟩
  rw[elT_step];by_cases c0:(sqAt n.2.1 k).1≠0
  ·have c1:(sqAt n.2.1 k).1=1:=by rcases hsk.1 with q | q<;>omega
   rw[if_pos c0,hr,if_pos c1];refine⟨by omega,fun x=> ?_,ih3,mono⟩;rw[ih2,kdC_succ,if_neg (fun h=>c0 h.2)];rfl
  rw[if_neg c0];have c0:(sqAt n.2.1 k).1=0:=Decidable.byContradiction c0;rw[if_neg (show ¬(sqAt n.2.1 k).1=1 by omega)]at hr;have hmem:=hin k (by omega) c0;have hx:=belowP_mem hsk.2 _ hmem;have f2:∀(y:Int) (x:Int),(((elT n k).1++[(y,(k:Int))]).flatMap lf2).count x=kdC n 0 (k+1) x:=fun y x=>by
   rw[List.flatMap_append,List.count_append,ih2,kdC_succ];have e:[(y,(k:Int))].flatMap lf2=[(k:Int)]:=by
    simp only[List.flatMap_cons,List.flatMap_nil,List.append_nil];unfold lf2;rw[if_pos (by simp only;omega)]
   rw[e,List.count_singleton];by_cases c:x=(k:Int)
   ·rw[if_pos (by simp[c]),if_pos ⟨c,c0⟩]
   ·rw[if_neg (show ¬((k:Int)==x)=true by simp;omega),if_neg (fun h=>c h.1)]
  by_cases c1:0<=nsAt (sqAt n.2.1 k).2.2 0 - fstP n/\nsAt (usesP n) (nsAt (sqAt n.2.1 k).2.2 0).toNat=1
  ·rw[if_pos c1,hr];have hi1:nsAt (sqAt n.2.1 k).2.2 0 - fstP n<((elT n k).2.length:Int):=by omega
   refine⟨by rw[List.length_append];simp only[List.length_cons,List.length_nil];omega,f2 _,fun j=> ?_,fun j hj=> ?_⟩
   ·rw[List.flatMap_append,List.count_append,ih3 j,bAu_put c1.1 hi1];have e:[(nsAt (sqAt n.2.1 k).2.2 0 - fstP n,(k:Int))].flatMap lf1=[nsAt (sqAt n.2.1 k).2.2 0 - fstP n]:=by
     simp only[List.flatMap_cons,List.flatMap_nil,List.append_nil];unfold lf1;rw[if_pos (by simp only;omega)]
    rw[e,List.count_singleton];by_cases c:nsAt (sqAt n.2.1 k).2.2 0 - fstP n=(j:Int)
    ·have hf:bAu (elT n k).2 j=false:=by
      cases hb:bAu (elT n k).2 j with
      | false=>rfl
      | true=>
       obtain⟨a,a1,a2,a3⟩:=ih4 j hb;have hma:=hin a (by omega) a2;have e2:nsAt (sqAt n.2.1 a).2.2 0=nsAt (sqAt n.2.1 k).2.2 0:=by omega
       rw[e2]at hma;exact absurd c1.2 (uses_two hn a1 (by omega) hma hmem)
     rw[hf,if_pos c,if_neg (by simp),if_pos (by simp[c]),if_pos rfl]
    ·rw[if_neg c,if_neg (show ¬(nsAt (sqAt n.2.1 k).2.2 0 - fstP n==(j:Int))=true by simp;omega)];rfl
   ·simp only at hj;rw[bAu_put c1.1 hi1]at hj;split at hj
    ·rename_i c;exact⟨k,by omega,c0,by omega⟩
    ·exact mono j hj
  ·rw[if_neg c1,hr];refine⟨by rw[List.length_append];simp only[List.length_cons,List.length_nil];omega,f2 _,fun j=> ?_,mono⟩;rw[List.flatMap_append,List.count_append,ih3 j];rfl
theorem elL_all {n:Net}(hn:netP n=true):∀k,k<=n.2.2.1.length->(elL n k).length<=(elT n n.2.1.length).1.length+k/\(∀x:Int,((elL n k).flatMap lf2).count x=((elT n n.2.1.length).1.flatMap lf2).count x)/\∀j:Nat,((elL n k).flatMap lf1).count (j:Int)=if bAu (elT n n.2.1.length).2 j=true\/j<k then 1 else 0:=by
 obtain⟨h1,h2,h3,h4⟩:=elT_all hn n.2.1.length (Nat.le_refl _);intro k
 induction k with
 | zero=>
  intro _;refine⟨Nat.le_refl _,fun _=>rfl,fun j=> ?_⟩;show((elT n n.2.1.length).1.flatMap lf1).count (j:Int)=_;rw[h3];by_cases c:bAu (elT n n.2.1.length).2 j=true
  ·rw[if_pos c,if_pos (.inl c)]
  ·rw[if_neg c,if_neg (fun h=>by rcases h with h | h;exact c h;omega)]
 | succ k ih=>
  intro hk;obtain⟨i1,i2,i3⟩:=ih (by omega);have e:elL n (k+1)=if bAu (elT n n.2.1.length).2 k=false then elL n k++[((k:Int),-1)]else elL n k:=rfl
  rw[e];by_cases c:bAu (elT n n.2.1.length).2 k=false
  ·rw[if_pos c];refine⟨by rw[List.length_append];simp only[List.length_cons,List.length_nil];omega,fun x=> ?_,fun j=> ?_⟩
   ·rw[List.flatMap_append,List.count_append,i2];rfl
   ·rw[List.flatMap_append,List.count_append,i3];have e:[((k:Int),(-1:Int))].flatMap lf1=[(k:Int)]:=by
     simp only[List.flatMap_cons,List.flatMap_nil,List.append_nil];unfold lf1;rw[if_pos (by simp only;omega)]
    rw[e,List.count_singleton];by_cases cj:j=k
    ·subst cj;rw[if_neg (by rw[c];simp),if_pos (by simp),if_pos (.inr (by omega))]
    ·rw[if_neg (show ¬((k:Int)==(j:Int))=true by simp;omega)];by_cases c2:bAu (elT n n.2.1.length).2 j=true\/j<k
     ·rw[if_pos c2,if_pos (by rcases c2 with h | h;exact .inl h;exact .inr (by omega))]
     ·rw[if_neg c2,if_neg (fun h=>c2 (by rcases h with h | h;exact .inl h;exact .inr (by omega)))]
  ·rw[if_neg c];have c:bAu (elT n n.2.1.length).2 k=true:=by cases h:bAu (elT n n.2.1.length).2 k with
    | true=>rfl
    | false=>exact absurd h c
   refine⟨by omega,i2,fun j=> ?_⟩;rw[i3];by_cases c2:bAu (elT n n.2.1.length).2 j=true\/j<k
   ·rw[if_pos c2,if_pos (by rcases c2 with h | h;exact .inl h;exact .inr (by omega))]
   ·rw[if_neg c2,if_neg (fun h=>c2 (by
     rcases h with h | h
     ·exact .inl h
     ·by_cases cj:j=k
      ·subst cj;exact .inl c
      ·exact .inr (by omega)))]
structure PkAll (n:Net)(out:List Blk):Prop where
 bk:∀b∈out,bkOk n b=true
 pk:out.length<=64->packP n out=true
 len:out.length=n.1.toNat+n.2.2.2.length+rmP n n.2.1.length+lgc out
 lg:lgc out+rmP n n.2.1.length<=n.2.2.1.length+n.2.1.length
theorem fm_none (ls:List Le):(ls.flatMap fun _=>([]:List Int))=[]:=by
 induction ls with
 | nil=>rfl
 | cons a r ih=>rw[List.flatMap_cons,ih];rfl
theorem pk_all {n:Net}(hn:netP n=true){out:List Blk}(hp:Packs n (sqA n n.2.1.length) (elP n) out):PkAll n out:=by
 obtain⟨hln,ho,hs,hl⟩:=netP_all hn;have hln1:=hln.1;obtain⟨s1,s2,s3,s4,s5⟩:=sqA_all n n.2.1.length;obtain⟨t1,t2,t3,t4⟩:=elT_all hn n.2.1.length (Nat.le_refl _);obtain⟨e1,e2,e3⟩:=elL_all hn n.2.2.1.length (Nat.le_refl _);obtain⟨p1,p2⟩:=packs_len hp;have hel:=(elL_ok hn n.2.2.1.length (Nat.le_refl _)).2;have hlg0:lgc (sqA n n.2.1.length)=0:=by
  unfold lgc;refine List.countP_eq_zero.2 fun b hb=> ?_
  rcases s1 b hb with⟨j,_,rfl⟩ | ⟨j,_,rfl⟩ | ⟨j,_,_,rfl⟩<;>simp
 have hbs:∀b∈sqA n n.2.1.length,bkOk n b=true:=fun b hb=>by
  rcases s1 b hb with⟨j,h1,rfl⟩ | ⟨j,h1,rfl⟩ | ⟨j,h1,h2,rfl⟩
  ·unfold bkOk itemP blk0;simp;omega
  ·unfold bkOk itemP blk0;simp;omega
  ·unfold bkOk itemP blk0;simp[h2];omega
 have hbk:=packs_bk hn hp hbs hel
 change (elP n).length<=_ at e1
 have ecount:∀x:Int,((elP n).flatMap lf2).count x=kdC n 0 n.2.1.length x:=fun x=>(e2 x).trans (t2 x)
 have rng:∀b∈out,∀e∈b.2.2,e.1<(n.2.2.1.length:Int)/\e.2<(n.2.1.length:Int):=fun b hb e he=>by
  obtain⟨j,hj,rfl⟩:=List.getElem_of_mem he;rw[le_eq hj];exact bk_les (hbk b hb) j hj
 refine⟨hbk,fun h64=> ?_,by omega,by omega⟩;unfold packP;rw[hn,dt h64,List.all_eq_true.2 hbk];simp only[Bool.true_and];rw[pkA_L];unfold once4 pk0;simp only;have o0:once (incL (List.replicate n.1.toNat 0) (out.flatMap i0))=true:=by
  refine once_of (fun x hx=> ?_) (fun j hj=> ?_)
  ·obtain⟨b,hb,hx⟩:=List.mem_flatMap.1 hx;unfold i0 at hx;split at hx
   ·rename_i k0;have:=(bk_item (hbk b hb)).1 k0;rw[List.mem_singleton.1 hx];omega
   ·cases hx
  ·rw[packs_cnt (g:=fun _=>[]) (fun ls=>by rw[fm_none];rfl) hp,fm_none,s2,(pdA_all _).2,if_pos (by omega)];rfl
 have o1:once (incL (List.replicate n.2.2.2.length 0) (out.flatMap i1))=true:=by
  refine once_of (fun x hx=> ?_) (fun j hj=> ?_)
  ·obtain⟨b,hb,hx⟩:=List.mem_flatMap.1 hx;unfold i1 at hx;split at hx
   ·rename_i k0;have:=(bk_item (hbk b hb)).2.1 k0;rw[List.mem_singleton.1 hx];omega
   ·cases hx
  ·rw[packs_cnt (g:=fun _=>[]) (fun ls=>by rw[fm_none];rfl) hp,fm_none,s3,(otA_all n _).2.2,if_pos (by omega)];rfl
 have o2:once (incL (List.replicate n.2.1.length 0) (out.flatMap i2))=true:=by
  refine once_of (fun x hx=> ?_) (fun j hj=> ?_)
  ·obtain⟨b,hb,hx⟩:=List.mem_flatMap.1 hx;unfold i2 at hx;rcases List.mem_append.1 hx with hx | hx
   ·split at hx
    ·rename_i k0;have:=(bk_item (hbk b hb)).2.2 k0;rw[List.mem_singleton.1 hx];omega
    ·cases hx
   ·obtain⟨e,he,hx⟩:=List.mem_flatMap.1 hx;have:=rng b hb e he;unfold lf2 at hx;split at hx
    ·rw[List.mem_singleton.1 hx];omega
    ·cases hx
  ·rw[packs_cnt (g:=lf2) (fun ls=>rfl) hp,s4,ecount];have hk:=(hs j hj).1;unfold kdC;rw[Int.toNat_natCast];rcases hk with q | q
   ·rw[if_neg (by omega),if_pos (by omega)]
   ·rw[if_pos (by omega),if_neg (by omega)]
 have o3:once (incL (List.replicate n.2.2.1.length 0) (out.flatMap i3))=true:=by
  refine once_of (fun x hx=> ?_) (fun j hj=> ?_)
  ·obtain⟨b,hb,hx⟩:=List.mem_flatMap.1 hx;unfold i3 at hx;obtain⟨e,he,hx⟩:=List.mem_flatMap.1 hx;have:=rng b hb e he;unfold lf1 at hx;split at hx
   ·rw[List.mem_singleton.1 hx];omega
   ·cases hx
  ·rw[packs_cnt (g:=lf1) (fun ls=>rfl) hp,cnt_none fun b hb=>by rcases s1 b hb with⟨j,_,rfl⟩ | ⟨j,_,rfl⟩ | ⟨j,_,_,rfl⟩<;>rfl];show 0+((elL n n.2.2.1.length).flatMap lf1).count (j:Int)=1;rw[e3,if_pos (.inr hj)]
 rw[o0,o1,o2,o3];rfl
end Go.Pf
/-
  Own work. Draws, plainly: the cursor.
-/
namespace Go.Pf
open Go Go.Pu
set_option linter.unusedVariables false
theorem gand_le (x:Int){m:Nat}(hm:m<4611686018427387904):0<=gand .i64 x (m:Int)/\gand .i64 x (m:Int)<=(m:Int):=by
 unfold gand;have h0:(BitVec.ofInt 64 x &&& BitVec.ofInt 64 (m:Int)).toNat<=m:=by
  rw[BitVec.toNat_and];refine Nat.le_trans Nat.and_le_right ?_
  rw[BitVec.toNat_ofInt];have:((m:Int) % ((2 ^ 64:Nat):Int)).toNat=m:=by omega
  omega
 show 0<=wrap .i64 ((BitVec.ofInt 64 x &&& BitVec.ofInt 64 (m:Int)).toNat:Int)/\wrap .i64 ((BitVec.ofInt 64 x &&& BitVec.ofInt 64 (m:Int)).toNat:Int)<=(m:Int);rw[wrap_ok (by omega)];omega
theorem gshift_ok (a:Int){b:Int}(h:0<=b/\b<64):∃z,gshift false .i64 a b=some z:=by
 unfold gshift;rw[if_pos (show 0<=b/\b<((IntKind.i64).bits:Int)from h)];exact⟨_,rfl⟩
abbrev Cur:=Int×Int
def CurOk (b:List Int)(c:Cur):Prop:=0<=c.1/\c.1<=(b.length:Int)
def CdOk (b:List Int):Prop:=b.length<=1048576
theorem byte_ok {b:List Int}{c:Cur}(hb:CdOk b)(hc:CurOk b c):∃x c',spec_l01Byte (b,c)=some (x,c')/\CurOk b c'∧0<=x/\x<=255:=by
 unfold CdOk at hb;unfold CurOk at hc;unfold spec_l01Byte;dsimp only;obtain⟨z1,h1⟩:=gshift_ok (wrap .i64 (wrap .i64 (c.2*6364136223846793005)+1442695040888963407)) (b:=33) (by omega);obtain⟨z2,h2⟩:=gshift_ok (wrap .i64 (wrap .i64 (c.2*6364136223846793005)+1442695040888963407)) (b:=45) (by omega);rw[h1,h2];simp only[Option.bind_some];by_cases q:c.1<(b.length:Int)
 ·rw[dt q,cond_true,gget_some (by omega) q];simp only[Option.bind_some];refine⟨_,_,rfl,?_,?_⟩
  ·rw[wrap_ok (by omega)];exact⟨by simp only;omega,by simp only;omega⟩
  ·exact gand_le _ (m:=255) (by omega)
 ·rw[df q,cond_false];exact⟨_,_,rfl,hc,gand_le _ (m:=255) (by omega)⟩
theorem grem_in {a n:Int}(h0:0<=a)(hn:0<n):∃z,grem a n=some z/\0<=z/\z<n:=by
 refine⟨a % n,grem_nn h0 hn,Int.emod_nonneg _ (by omega),Int.emod_lt_of_pos _ hn⟩
theorem below_ok {b:List Int}{c:Cur}(hb:CdOk b)(hc:CurOk b c)(n:Int):∃x c',spec_l01Below ((b,c),n)=some (x,c')/\CurOk b c'∧(n<=0->x=0)/\(0<n->0<=x/\x<n):=by
 unfold spec_l01Below;dsimp only;by_cases h1:n<=0
 ·rw[dt h1,cond_true];exact⟨0,c,rfl,hc,fun _=>rfl,fun h=>by omega⟩
 rw[df h1,cond_false];by_cases h2:n<=256
 ·rw[dt h2,cond_true];obtain⟨x,c1,e1,k1,x0,x1⟩:=byte_ok hb hc;rw[e1];simp only[Option.bind_some];obtain⟨z,e2,z0,z1⟩:=grem_in x0 (show 0<n by omega);rw[e2];exact⟨z,c1,rfl,k1,fun h=>by omega,fun _=>⟨z0,z1⟩⟩
 ·rw[df h2,cond_false];obtain⟨x,c1,e1,k1,x0,x1⟩:=byte_ok hb hc;obtain⟨y,c2,e2,k2,y0,y1⟩:=byte_ok hb k1;obtain⟨u,c3,e3,k3,u0,u1⟩:=byte_ok hb k2;obtain⟨w,c4,e4,k4,w0,w1⟩:=byte_ok hb k3;rw[e1];simp only[Option.bind_some];rw[e2];simp only[Option.bind_some];rw[e3];simp only[Option.bind_some];rw[e4];simp only[Option.bind_some];rw[wrap_ok (z:=x*16777216) (by omega),wrap_ok (z:=y*65536) (by omega),wrap_ok (z:=x*16777216+y*65536) (by omega),wrap_ok (z:=u*256) (by omega),wrap_ok (z:=x*16777216+y*65536+u*256) (by omega),wrap_ok (z:=x*16777216+y*65536+u*256+w) (by omega)];obtain⟨z,e5,z0,z1⟩:=grem_in (show 0<=x*16777216+y*65536+u*256+w by omega) (show 0<n by omega);rw[e5];exact⟨z,c4,rfl,k4,fun h=>by omega,fun _=>⟨z0,z1⟩⟩
theorem once_ok {b:List Int}{c:Cur}(hb:CdOk b)(hc:CurOk b c)(n:Int):∃x c',spec_l01Once ((b,c),n)=some (x,c')/\CurOk b c' :=by
 unfold spec_l01Once;obtain⟨x,c1,e1,k1,_⟩:=below_ok hb hc n;rw[e1];exact⟨_,c1,rfl,k1⟩
theorem new_ok {b:List Int}(hb:CdOk b):∃c,spec_l01New b=some c/\CurOk b c:=by
 unfold CdOk at hb;have key:∃o:Int⊕Cur,Pu.loop (fun(v3:(Int×Int))=>
  let v4:Int:=((b).length:Int)
  let v5:Bool:=decide (v3.2<v4)
  bif v5 then(
   let v6:Bool:=decide (v3.2<4000)
   bif v6 then(
    let v7:Int:=wrap .i64 (v3.1*131)
    (gget 0 b v3.2).bind fun v8=>
    let v9:Int:=wrap .i64 v8
    let v10:Int:=wrap .i64 (v7+v9)
    let v11:Int:=wrap .i64 (v10+7)
    let v12:Int:=gand .i64 v11 1073741823
    let v13:Int:=wrap .i64 (v3.2+1)
    some (.inl (v12,v13)))else
   Option.map Sum.inr (
    some (.inl v3.1)))else
  Option.map Sum.inr (
   some (.inl v3.1))) (wrap .i64 (33117+(b.length:Int)),0)=some o/\∃z,o= .inl z:=by
  refine loop_spec (fun s:Int×Int=>0<=s.2/\s.2<=(b.length:Int)) (fun o:Int⊕Cur=>∃z:Int,o= .inl z) (fun s=>((b.length:Int) - s.2).toNat) (fun s hs=> ?_) _ ⟨by simp,by simp⟩;obtain⟨h,i⟩:=s;obtain⟨i0,i1⟩:=hs;simp only at i0 i1;dsimp only;by_cases h1:i<(b.length:Int)
  ·rw[dt h1,cond_true];by_cases h2:i<4000
   ·left
    rw[dt h2,cond_true,gget_some i0 h1];simp only[Option.bind_some];refine⟨_,rfl,⟨?_,?_⟩,?_⟩
    ·simp only;rw[wrap_ok (by omega)];omega
    ·simp only;rw[wrap_ok (by omega)];omega
    ·simp only;rw[wrap_ok (by omega)];omega
   ·right
    rw[df h2,cond_false];exact⟨_,rfl,_,rfl⟩
  ·right
   rw[df h1,cond_false];exact⟨_,rfl,_,rfl⟩
 obtain⟨o,h1,z,rfl⟩:=key;unfold spec_l01New;dsimp only at h1 ⊢;rw[h1];exact⟨(0,z),rfl,by unfold CurOk;simp⟩
theorem big_ok (b:List Int):laws_big b=some (decide (1048576<(b.length:Int))):=rfl
end Go.Pf
/-
  Own work. Results that are there and have a property: no panic, and an end.
-/
namespace Go.Pf
open Go Go.Pu
set_option linter.unusedVariables false
def Tot {α:Type}(X:Option α)(Q:α->Prop):Prop:=∃o,X=some o/\Q o
def SumP {α β:Type}(A:α->Prop)(Q:β->Prop):α⊕β->Prop
 | .inl a=>A a
 | .inr b=>Q b
section
variable {α β σ ω:Type}
theorem Tot.mono {X:Option α}{P Q:α->Prop}(h:Tot X P)(hi:∀a,P a->Q a):Tot X Q:=by
 obtain⟨o,h1,h2⟩:=h;exact⟨o,h1,hi o h2⟩
theorem Tot.ret {a:α}{Q:α->Prop}(h:Q a):Tot (some a) Q:=⟨a,rfl,h⟩
theorem Tot.bind {X:Option α}{k:α->Option β}{A:α->Prop}{Q:β->Prop}(h:Tot X A)(hk:∀a,A a->Tot (k a) Q):Tot (X.bind k) Q:=by
 obtain⟨o,h1,h2⟩:=h;rw[h1];exact hk o h2
theorem Tot.bindEq {X:Option α}{k:α->Option β}{a:α}{Q:β->Prop}(h:X=some a)(hk:Tot (k a) Q):Tot (X.bind k) Q:=by rw[h];exact hk
theorem Tot.ite {c:Bool}{a b:Option α}{Q:α->Prop}(h1:c=true->Tot a Q)(h2:c=false->Tot b Q):Tot (bif c then a else b) Q:=by
 cases c with
 | true=>exact h1 rfl
 | false=>exact h2 rfl
theorem Tot.nite {c:Bool}{a b:Option α}{Q:α->Prop}(h1:c=false->Tot a Q)(h2:c=true->Tot b Q):Tot (bif !c then a else b) Q:=by
 cases c with
 | true=>exact h2 rfl
 | false=>exact h1 rfl
theorem Tot.dite {p:Prop} [Decidable p] {a b:Option α}{Q:α->Prop}(h1:p->Tot a Q)(h2:¬p->Tot b Q):Tot (bif decide p then a else b) Q:=by
 by_cases h:p
 ·rw[dt h];exact h1 h
 ·rw[df h];exact h2 h
theorem Tot.ndite {p:Prop} [Decidable p] {a b:Option α}{Q:α->Prop}(h1:¬p->Tot a Q)(h2:p->Tot b Q):Tot (bif !decide p then a else b) Q:=by
 by_cases h:p
 ·rw[dt h];exact h2 h
 ·rw[df h];exact h1 h
theorem Tot.exit {X:Option β}{A:α->Prop}{Q:β->Prop}(h:Tot X Q):Tot (Option.map (Sum.inr:β->α⊕β) X) (SumP A Q):=by
 obtain⟨o,h1,h2⟩:=h;rw[h1];exact⟨_,rfl,h2⟩
theorem Tot.next {s:σ}{A:σ->Prop}{Q:ω->Prop}(h:A s):Tot (some (Sum.inl s:σ⊕ω)) (SumP A Q):=⟨_,rfl,h⟩
theorem Tot.join {X:Option (α⊕β)}{k:α->Option β}{A:α->Prop}{Q:β->Prop}(h:Tot X (SumP A Q))(hk:∀a,A a->Tot (k a) Q):Tot (joinO X k) Q:=by
 obtain⟨o,h1,h2⟩:=h;rw[h1];cases o with
 | inl a=>exact hk a h2
 | inr b=>exact⟨b,rfl,h2⟩
theorem Tot.lp {f:σ->Option (σ⊕ω)}(I:σ->Prop)(μ:σ->Nat){Q:ω->Prop}{s0:σ}(h0:I s0)(h:∀s,I s->Tot (f s) (SumP (fun s' =>I s'∧μ s' <μ s) Q)):Tot (loop f s0) Q:=by
 refine loop_spec I Q μ (fun s hs=> ?_) s0 h0;obtain⟨o,h1,h2⟩:=h s hs;cases o with
 | inl s' =>exact .inl ⟨s',h1,h2.1,h2.2⟩
 | inr o=>exact .inr ⟨o,h1,h2⟩
theorem Tot.get {d:α}{xs:List α}{i:Int}{k:α->Option β}{Q:β->Prop}(h0:0<=i)(h1:i<(xs.length:Int))(hk:∀y,y=xs.getD i.toNat d->y∈xs->Tot (k y) Q):Tot ((gget d xs i).bind k) Q:=by
 rw[gget_some h0 h1];refine hk _ rfl ?_
 rw[List.getD,List.getElem?_eq_getElem (by omega)];exact List.getElem_mem _
theorem Tot.gin {n:Nat}{i:Int}{k:Unit->Option β}{Q:β->Prop}(h0:0<=i)(h1:i<(n:Int))(hk:Tot (k ()) Q):Tot ((gin n i).bind k) Q:=by
 unfold Pu.gin;rw[if_pos ⟨h0,h1⟩];exact hk
theorem Tot.app {b:Nat}{xs ys:List α}{k:List α->Option β}{Q:β->Prop}(h:xs.length+ys.length<=1000000000)(hb:b<=100)(hk:Tot (k (xs++ys)) Q):Tot ((gapp b xs ys).bind k) Q:=by
 rw[gapp_some (by
  have:(xs.length+ys.length)*b<=1000000000*100:=Nat.mul_le_mul h hb;omega) (by omega)]
 exact hk
theorem Tot.make {b:Nat}{d:α}{n:Int}{k:List α->Option β}{Q:β->Prop}(h0:0<=n)(h1:n<=1000000)(hb:b<=100)(hk:Tot (k (List.replicate n.toNat d)) Q):Tot ((gmake b d n).bind k) Q:=by
 have e:n=(n.toNat:Int):=by omega
 rw[e,gmake_nat (by
  have:n.toNat*b<=1000000*100:=Nat.mul_le_mul (by omega) hb;omega) (by omega)]
 exact hk
theorem Tot.div2 {a:Int}{k:Int->Option β}{Q:β->Prop}(h0:0<=a)(h1:a<=9223372036854775807)(hk:Tot (k (a/2)) Q):Tot ((gdiv .i64 a 2).bind k) Q:=by
 rw[gdiv_nn h0 h1 (by omega)];exact hk
theorem Tot.rem {a b:Int}{k:Int->Option β}{Q:β->Prop}(h0:0<=a)(hb:0<b)(hk:Tot (k (a % b)) Q):Tot ((grem a b).bind k) Q:=by
 rw[grem_nn h0 hb];exact hk
theorem Tot.below {b:List Int}{c:Cur}{n:Int}{k:Int×Cur->Option β}{Q:β->Prop}(hb:CdOk b)(hc:CurOk b c)(hk:∀x c',CurOk b c'→(n<=0->x=0)->(0<n->0<=x/\x<n)->Tot (k (x,c')) Q):Tot ((spec_l01Below ((b,c),n)).bind k) Q:=by
 obtain⟨x,c',e,k1,k2,k3⟩:=below_ok hb hc n;rw[e];exact hk x c' k1 k2 k3
theorem Tot.once {b:List Int}{c:Cur}{n:Int}{k:Bool×Cur->Option β}{Q:β->Prop}(hb:CdOk b)(hc:CurOk b c)(hk:∀x c',CurOk b c'→Tot (k (x,c')) Q):Tot ((spec_l01Once ((b,c),n)).bind k) Q:=by
 obtain⟨x,c',e,k1⟩:=once_ok hb hc n;rw[e];exact hk x c' k1
end
theorem gset_len {α:Type}(xs:List α)(i:Int)(x:α):(gset xs i x).length=xs.length:=by unfold gset;rw[List.length_set]
theorem gset_mem {α:Type}{xs:List α}{i:Int}{x y:α}(h:y∈gset xs i x):y∈xs\/y=x:=List.mem_or_eq_of_mem_set h
theorem getD_mem {α:Type}{xs:List α}{n:Nat}{d:α}(h:n<xs.length):xs.getD n d∈xs:=by
 rw[List.getD,List.getElem?_eq_getElem h];exact List.getElem_mem h
end Go.Pf
/-
  Own work. Draws, plainly: nets; which are valid; roots; copies.
-/
namespace Go.Pf
open Go Go.Pu
set_option linter.unusedVariables false
theorem wrap_in (z:Int): -9223372036854775808<=wrap .i64 z/\wrap .i64 z<=9223372036854775807:=by
 unfold wrap;have h:IntKind.wrap .i64 z=(z+9223372036854775808) % 18446744073709551616 - 9223372036854775808:=by
  rw[IntKind.wrap_i64]
 rw[h];omega
abbrev SSeq:=Int×(Int×List Int)
abbrev SAnd:=Int×Int
abbrev SNet:=Int×(List SSeq×(List SAnd×List Int))
def I64 (x:Int):Prop:= -9223372036854775808<=x/\x<=9223372036854775807
structure NB (n:SNet):Prop where
 sq:n.2.1.length<=1000
 ins:∀s∈n.2.1,s.2.2.length<=1000/\∀x∈s.2.2,I64 x
 an:n.2.2.1.length<=1000
 ands:∀a∈n.2.2.1,I64 a.1/\I64 a.2
 ot:n.2.2.2.length<=1000
 outs:∀x∈n.2.2.2,I64 x
def firstOf (n:SNet):Int:=1+n.1+(n.2.1.length:Int)
def nodesOf (n:SNet):Int:=firstOf n+(n.2.2.1.length:Int)
def Lit (x m:Int):Prop:=0<=x/\x<2*m
structure NOk (n:SNet):Prop where
 inp:0<=n.1/\n.1<=20
 sq:n.2.1.length<=12
 an:n.2.2.1.length<=300
 ot:n.2.2.2.length<=16
 ins:∀s∈n.2.1,s.2.2.length<=4/\∀x∈s.2.2,Lit x (nodesOf n)
 outs:∀x∈n.2.2.2,Lit x (nodesOf n)
 ands:∀i,i<n.2.2.1.length->Lit (n.2.2.1.getD i (0,0)).1 (firstOf n+(i:Int))/\Lit (n.2.2.1.getD i (0,0)).2 (firstOf n+(i:Int))
def capsOk (n:SNet):Prop:=(0<=n.1/\n.1<=20)/\n.2.1.length<=12/\n.2.2.1.length<=300/\n.2.2.2.length<=16
instance (n:SNet):Decidable (capsOk n):=by unfold capsOk;infer_instance
theorem NOk.caps {n:SNet}(h:NOk n):capsOk n:=⟨h.inp,h.sq,h.an,h.ot⟩
theorem nodeCount_ok (n:SNet):spec_NodeCount n=some (if capsOk n then nodesOf n else 0):=by
 unfold spec_NodeCount;dsimp only;rw[inR_spec];simp only[Option.bind_some];by_cases h1:0<=n.1/\n.1<=20
 rotate_left
 ·rw[df h1,if_neg (fun e:capsOk n=>h1 e.1)];rfl
 rw[dt h1];simp only[Bool.not_true,cond_false];by_cases h2:n.2.1.length<=12
 rotate_left
 ·rw[dt (by omega),if_neg (fun e:capsOk n=>h2 e.2.1)];rfl
 rw[df (by omega),cond_false];by_cases h3:n.2.2.1.length<=300
 rotate_left
 ·rw[dt (by omega),if_neg (fun e:capsOk n=>h3 e.2.2.1)];rfl
 rw[df (by omega),cond_false];by_cases h4:n.2.2.2.length<=16
 rotate_left
 ·rw[dt (by omega),if_neg (fun e:capsOk n=>h4 e.2.2.2)];rfl
 rw[df (by omega),cond_false,if_pos (show capsOk n from⟨h1,h2,h3,h4⟩),wrap_ok (z:=1+n.1) (by omega),wrap_ok (z:=1+n.1+(n.2.1.length:Int)) (by omega),wrap_ok (by omega)];rfl
theorem nodeCount_nok {n:SNet}(h:NOk n):spec_NodeCount n=some (nodesOf n):=by rw[nodeCount_ok,if_pos h.caps]
theorem first_caps {n:SNet}(h:capsOk n):spec_l08First n=some (firstOf n):=by
 unfold spec_l08First;obtain⟨h1,h2,_⟩:=h;dsimp only;rw[wrap_ok (z:=1+n.1) (by omega),wrap_ok (by omega)];rfl
theorem first_nok {n:SNet}(h:NOk n):spec_l08First n=some (firstOf n):=first_caps h.caps
theorem caps_bd {n:SNet}(h:capsOk n):(1<=firstOf n/\firstOf n<=33)/\(1<=nodesOf n/\nodesOf n<=333)/\nodesOf n=firstOf n+(n.2.2.1.length:Int):=by
 obtain⟨h1,h2,h3,_⟩:=h;unfold nodesOf firstOf;omega
theorem lit_ok {x m:Int}(hx:I64 x):spec_l08Lit (x,m)=some (decide (0<=x/\x/2<m)):=by
 unfold spec_l08Lit;dsimp only;unfold I64 at hx;by_cases h:0<=x
 ·rw[dt h,cond_true,gdiv_nn h hx.2 (by omega)];simp only[Option.bind_some];by_cases q:x/2<m
  ·rw[dt q,dt ⟨h,q⟩]
  ·rw[df q,df (fun e=>q e.2)]
 ·rw[df h,df (fun e=>h e.1)];rfl
def rootsTo (n:SNet)(k:Nat):List Int:=n.2.2.2++(n.2.1.take k).flatMap (·.2.2)
def rootsOf (n:SNet):List Int:=rootsTo n n.2.1.length
theorem flat_len {xs:List SSeq}{K:Nat}(h:∀s∈xs,s.2.2.length<=K):(xs.flatMap (·.2.2)).length<=xs.length*K:=by
 induction xs with
 | nil=>simp
 | cons x xs ih=>
  have h1:=h x (by simp);have h2:=ih (fun s hs=>h s (by simp[hs]));rw[List.flatMap_cons,List.length_append,List.length_cons,Nat.succ_mul];omega
theorem roots_len {n:SNet}(h:NB n)(k:Nat):(rootsTo n k).length<=1001000:=by
 unfold rootsTo;have h1:=flat_len (xs:=n.2.1.take k) (K:=1000) (fun s hs=>(h.ins s (List.mem_of_mem_take hs)).1);have h2:(n.2.1.take k).length<=1000:=by rw[List.length_take];have:=h.sq;omega
 have h3:(n.2.1.take k).length*1000<=1000*1000:=Nat.mul_le_mul_right _ h2;have h4:=h.ot;rw[List.length_append];omega
theorem roots_ok {n:SNet}(h:NB n):spec_l08Roots n=some (rootsOf n):=by
 unfold spec_l08Roots;dsimp only;have ho:=h.ot;rw[gapp_some (by simp only[List.length_nil];omega) (by simp only[List.length_nil];omega)];simp only[Option.bind_some,List.nil_append];have e0:((0:Int),n.2.2.2)=(fun k:Nat=>((k:Int),rootsTo n k)) 0:=by simp[rootsTo]
 rw[e0];have hs:=h.sq;refine loop_upto n.2.1.length (fun k=>((k:Int),rootsTo n k)) (fun k hk=> ?_) ?_
 ·have h1:=roots_len h k;have h2:=(h.ins n.2.1[k] (List.getElem_mem hk)).1
  try dsimp only
  rw[dt (by omega),cond_true,gget_nat hk];simp only[Option.bind_some];rw[gapp_some (by omega) (by omega)];simp only[Option.bind_some];rw[wrap_ok (by omega)];have e:rootsTo n (k+1)=rootsTo n k++n.2.1[k].2.2:=by
   unfold rootsTo;rw[take_succ' n.2.1 k hk,List.flatMap_append];simp
  rw[e];rfl
 ·try dsimp only
  rw[df (by omega),cond_false];rfl
theorem roots_mem {n:SNet}{x:Int}:x∈rootsOf n↔x∈n.2.2.2\/∃s∈n.2.1,x∈s.2.2:=by
 unfold rootsOf rootsTo;rw[List.take_length,List.mem_append,List.mem_flatMap]
theorem take_all {α:Type}{xs:List α}{P:α->Prop}{i:Int}(h0:0<=i)(hi:i<(xs.length:Int)){d:α}(h:∀x∈xs.take i.toNat,P x)(hy:P (xs.getD i.toNat d)):∀x∈xs.take (i+1).toNat,P x:=fun x hx=>by
 have e:(i+1).toNat=i.toNat+1:=by omega
 rw[e,take_succ' xs i.toNat (by omega),List.mem_append,List.mem_singleton]at hx;rcases hx with hx | rfl
 ·exact h x hx
 ·rw[List.getD,List.getElem?_eq_getElem (by omega)]at hy;exact hy
theorem netOk_tot {n:SNet}(hb:NB n):Tot (spec_NetOk n) (fun b=>b=true->NOk n):=by
 unfold spec_NetOk;dsimp only;rw[nodeCount_ok];simp only[Option.bind_some];by_cases hc:capsOk n
 rotate_left
 ·rw[if_neg hc,dt rfl,cond_true];exact Tot.ret (fun h=>by cases h)
 obtain⟨hf,hn,hfn⟩:=caps_bd hc;rw[if_pos hc,df (by omega),cond_false];have hsq:=hc.2.1;have han:=hc.2.2.1;have fals:∀{α:Type} {A:α->Prop},Tot (Option.map (Sum.inr:Bool->α⊕Bool) (some false)) (SumP A (fun b=>b=true->NOk n)):=Tot.exit (Tot.ret (fun h=>by cases h));refine Tot.lp (fun i=>(0<=i/\i<=(n.2.1.length:Int))/\∀s∈n.2.1.take i.toNat,s.2.2.length<=4) (fun i=>((n.2.1.length:Int) - i).toNat) ⟨⟨by omega,by omega⟩,fun s hs=>by simp at hs⟩ (fun i hi=> ?_);obtain⟨⟨i0,i1⟩,hi2⟩:=hi;refine Tot.dite (fun h1=> ?_) (fun h1=> ?_)
 ·refine Tot.get i0 h1 fun s hs hm=> ?_
  have step:s.2.2.length<=4->Tot (some (Sum.inl (wrap .i64 (i+1)):Int⊕Bool)) (SumP (fun s' =>(((0<=s'∧s'≤(n.2.1.length:Int))/\∀s∈n.2.1.take s'.toNat,s.2.2.length<=4)/\((n.2.1.length:Int) - s').toNat<((n.2.1.length:Int) - i).toNat)) (fun b=>b=true->NOk n)):=fun h4=>by
   rw[wrap_ok (by omega)];exact Tot.next ⟨⟨⟨by omega,by omega⟩,take_all i0 h1 hi2 (by rw[<-hs];exact h4)⟩,by omega⟩
  rw[inR_spec];simp only[Option.bind_some];rw[inR_spec];simp only[Option.bind_some];refine Tot.dite (fun _=> ?_) (fun _=> ?_)
  ·refine Tot.dite (fun _=> ?_) (fun _=> ?_)
   ·refine Tot.dite (fun h4=>step (by omega)) (fun _=> ?_);refine Tot.dite (fun _=> ?_) (fun _=>fals);refine Tot.dite (fun _=> ?_) (fun _=>fals);exact Tot.ndite (fun _=>fals) (fun h4=>step (by omega))
   ·refine Tot.dite (fun _=> ?_) (fun _=>fals);refine Tot.dite (fun _=> ?_) (fun _=>fals);exact Tot.ndite (fun _=>fals) (fun h4=>step (by omega))
  ·refine Tot.dite (fun _=> ?_) (fun _=>fals);refine Tot.dite (fun _=> ?_) (fun _=>fals);exact Tot.ndite (fun _=>fals) (fun h4=>step (by omega))
 refine Tot.exit ?_
 have e1:i.toNat=n.2.1.length:=by omega
 rw[e1,List.take_length]at hi2;rw[roots_ok hb];simp only[Option.bind_some];have hrl:(rootsOf n).length<=1001000:=roots_len hb _;have hri:∀x∈rootsOf n,I64 x:=fun x hx=>by
  rcases roots_mem.1 hx with h | ⟨s,hs,h⟩
  ·exact hb.outs x h
  ·exact(hb.ins s hs).2 x h
 refine Tot.lp (fun i=>(0<=i/\i<=((rootsOf n).length:Int))/\∀x∈(rootsOf n).take i.toNat,Lit x (nodesOf n)) (fun i=>(((rootsOf n).length:Int) - i).toNat) ⟨⟨by omega,by omega⟩,fun s hs=>by simp at hs⟩ (fun j hj=> ?_);obtain⟨⟨j0,j1⟩,hj2⟩:=hj;refine Tot.dite (fun h2=> ?_) (fun h2=> ?_)
 ·refine Tot.gin j0 h2 (Tot.get j0 h2 fun x hx hm=> ?_);rw[lit_ok (hri x hm)];simp only[Option.bind_some];refine Tot.ndite (fun _=>fals) (fun h4=> ?_);rw[wrap_ok (by omega)];exact Tot.next ⟨⟨⟨by omega,by omega⟩,take_all j0 h2 hj2 (by rw[<-hx];unfold Lit;omega)⟩,by omega⟩
 refine Tot.exit ?_
 have e2:j.toNat=(rootsOf n).length:=by omega
 rw[e2,List.take_length]at hj2;refine Tot.lp (fun i=>(0<=i/\i<=(n.2.2.1.length:Int))/\∀k:Nat,(k:Int)<i->Lit (n.2.2.1.getD k (0,0)).1 (firstOf n+(k:Int))/\Lit (n.2.2.1.getD k (0,0)).2 (firstOf n+(k:Int))) (fun i=>((n.2.2.1.length:Int) - i).toNat) ⟨⟨by omega,by omega⟩,fun k hk=>by omega⟩ (fun k hk=> ?_);obtain⟨⟨k0,k1⟩,hk2⟩:=hk;refine Tot.dite (fun h3=> ?_) (fun h3=> ?_)
 ·refine Tot.get k0 h3 fun a ha hm=> ?_
  have hab:=hb.ands a hm;rw[first_caps hc];simp only[Option.bind_some];rw[wrap_ok (z:=firstOf n+k) (by omega),lit_ok hab.1];simp only[Option.bind_some];refine Tot.ndite (fun _=>fals) (fun h4=> ?_);refine Tot.get k0 h3 fun a2 ha2 hm2=> ?_
  have ea:a2=a:=by rw[ha,ha2]
  subst ea;rw[lit_ok hab.2];simp only[Option.bind_some];refine Tot.ndite (fun _=>fals) (fun h5=> ?_);rw[wrap_ok (z:=k+1) (by omega)];refine Tot.next ⟨⟨⟨by omega,by omega⟩,fun q hq=> ?_⟩,by omega⟩;by_cases c:(q:Int)<k
  ·exact hk2 q c
  ·have e3:k.toNat=q:=by omega
   rw[e3]at ha;rw[<-ha];unfold Lit;have:k=(q:Int):=by omega
   omega
 refine Tot.exit (Tot.ret fun _=> ?_);refine⟨hc.1,hsq,han,hc.2.2.2,fun s hs=>⟨hi2 s hs,fun x hx=>hj2 x (roots_mem.2 (.inr ⟨s,hs,hx⟩))⟩,fun x hx=>hj2 x (roots_mem.2 (.inl hx)),fun q hq=>hk2 q (by omega)⟩
end Go.Pf
/-
  Own work. Draws, plainly: copies of nets, hashing, sweeping.
-/
namespace Go.Pf
open Go Go.Pu
set_option linter.unusedVariables false
theorem gxor_in (a b:Int):I64 (gxor .i64 a b):=wrap_in _
def SqB (xs:List SSeq):Prop:=xs.length<=1000/\∀s∈xs,s.2.2.length<=1000/\∀x∈s.2.2,I64 x
theorem copySeqs_ok {xs:List SSeq}(h:SqB xs):spec_l08CopySeqs xs=some xs:=by
 have hl:=h.1;unfold spec_l08CopySeqs;have e0:((0:Int),([]:List SSeq))=(fun k:Nat=>((k:Int),xs.take k)) 0:=by simp
 dsimp only;rw[e0];refine Eq.trans (loop_upto xs.length (fun k=>((k:Int),xs.take k)) (o:=xs.take xs.length) (fun k hk=> ?_) ?_) (by rw[List.take_length])
 ·have h2:=(h.2 xs[k] (List.getElem_mem hk)).1;have htl:(xs.take k).length<=k:=by rw[List.length_take];omega
  try dsimp only
  rw[dt (by omega),cond_true,gget_nat hk];simp only[Option.bind_some];rw[gapp_some (by simp only[List.length_nil];omega) (by simp only[List.length_nil];omega)];simp only[Option.bind_some,List.nil_append];rw[gapp_some (by simp only[List.length_singleton];omega) (by simp only[List.length_singleton];omega)];simp only[Option.bind_some,joinO];rw[wrap_ok (by omega),take_succ' xs k hk];rfl
 ·try dsimp only
  rw[df (by omega),cond_false];rfl
theorem NB.sqb {n:SNet}(h:NB n):SqB n.2.1:=⟨h.sq,h.ins⟩
theorem copy_ok {n:SNet}(h:NB n):spec_l08Copy n=some n:=by
 unfold spec_l08Copy;have ha:=h.an;have ho:=h.ot;rw[copySeqs_ok h.sqb];simp only[Option.bind_some];rw[gapp_some (by simp only[List.length_nil];omega) (by simp only[List.length_nil];omega)];simp only[Option.bind_some];rw[gapp_some (by simp only[List.length_nil];omega) (by simp only[List.length_nil];omega)];rfl
theorem NOk.nb {n:SNet}(h:NOk n):NB n:=by
 have hc:=caps_bd h.caps;refine⟨by have:=h.sq;omega,fun s hs=>⟨by have:=(h.ins s hs).1;omega,fun x hx=> ?_⟩,by have:=h.an;omega,fun a ha=> ?_,by have:=h.ot;omega,fun x hx=> ?_⟩
 ·have:=(h.ins s hs).2 x hx;unfold Lit at this;unfold I64;omega
 ·obtain⟨i,hi,rfl⟩:=List.getElem_of_mem ha;have:=h.ands i hi;rw[List.getD,List.getElem?_eq_getElem hi]at this;simp only[Option.getD_some]at this;unfold Lit at this;unfold I64;omega
 ·have:=h.outs x hx;unfold Lit at this;unfold I64;omega
structure EmptyOf (n:SNet)(r:SNet×List Int):Prop where
 inp:r.1.1=n.1
 sq:r.1.2.1.length=n.2.1.length
 ins:∀s∈r.1.2.1,s.2.2.length<=4/\∀x∈s.2.2,I64 x
 an:r.1.2.2.1=[]
 ot:r.1.2.2.2=[]
 to:(r.2.length:Int)=firstOf n
theorem empty_tot {n:SNet}(h:NOk n):Tot (spec_l10Empty n) (EmptyOf n):=by
 unfold spec_l10Empty;have hc:=caps_bd h.caps;have hsq:=h.sq;refine Tot.join (A:=fun v=>v=n.2.1) (Tot.bindEq (copySeqs_ok h.nb.sqb) (Tot.next rfl)) fun v hv=> ?_
 subst hv;refine Tot.lp (fun s=>(0<=s.1/\s.1<=firstOf n)/\(s.2.length:Int)=s.1) (fun s=>(firstOf n - s.1).toNat) ⟨⟨by simp only;omega,by simp only;omega⟩,by simp⟩ (fun s hs=> ?_);obtain⟨i,to⟩:=s;obtain⟨⟨i0,i1⟩,hl⟩:=hs;simp only at i0 i1 hl;refine Tot.bindEq (first_nok h) ?_
 dsimp only;refine Tot.dite (fun h1=> ?_) (fun h1=> ?_)
 ·refine Tot.app (by simp only[List.length_singleton];omega) (by omega) ?_
  rw[wrap_ok (z:=i+1) (by omega)];exact Tot.next ⟨⟨⟨by simp only;omega,by simp only;omega⟩,by simp only[List.length_append,List.length_singleton];omega⟩,by simp only;omega⟩
 refine Tot.exit ?_
 refine Tot.lp (fun s=>(0<=s.1/\s.1<=(n.2.1.length:Int))/\s.2.length=n.2.1.length/\∀q∈s.2,q.2.2.length<=4/\∀x∈q.2.2,I64 x) (fun s=>((n.2.1.length:Int) - s.1).toNat) ⟨⟨by simp only;omega,by simp only;omega⟩,rfl,fun q hq=>⟨(h.ins q hq).1,(h.nb.ins q hq).2⟩⟩ (fun s hs=> ?_);obtain⟨k,sq⟩:=s;obtain⟨⟨k0,k1⟩,hl2,hq⟩:=hs;simp only at k0 k1 hl2 hq;dsimp only;refine Tot.dite (fun h2=> ?_) (fun h2=> ?_)
 ·refine Tot.gin k0 h2 (Tot.get k0 h2 fun y hy hm=> ?_);have hym:=hq y hm;refine Tot.make (by omega) (by omega) (by omega) ?_
  refine Tot.gin k0 h2 (Tot.get k0 h2 fun y2 hy2 hm2=> ?_);rw[wrap_ok (z:=k+1) (by omega)];refine Tot.next ⟨⟨⟨by simp only;omega,by simp only;omega⟩,by simp only[gset_len];exact hl2,fun q hq2=> ?_⟩,by simp only;omega⟩;rcases gset_mem hq2 with hq2 | rfl
  ·exact hq q hq2
  ·refine⟨by simp only[List.length_replicate];omega,fun x hx=> ?_⟩;simp only at hx;rw[List.eq_of_mem_replicate hx];unfold I64;omega
 exact Tot.exit (Tot.ret ⟨rfl,hl2,hq,rfl,rfl,by simp only;omega⟩)
theorem map10_tot {to lits:List Int}(hl:lits.length<=1000)(h:∀x∈lits,0<=x/\x/2<(to.length:Int)/\x<=9223372036854775807):Tot (spec_l10Map (to,lits)) (fun r=>r.length=lits.length/\∀x∈r,I64 x):=by
 unfold spec_l10Map;dsimp only;refine Tot.lp (fun s=>(0<=s.1/\s.1<=(lits.length:Int))/\(s.2.length:Int)=s.1/\∀x∈s.2,I64 x) (fun s=>((lits.length:Int) - s.1).toNat) ⟨⟨by simp only;omega,by simp only;omega⟩,by simp,fun x hx=>by simp at hx⟩ (fun s hs=> ?_);obtain⟨i,r⟩:=s;obtain⟨⟨i0,i1⟩,hr,hx⟩:=hs;simp only at i0 i1 hr hx;dsimp only;refine Tot.dite (fun h1=> ?_) (fun h1=> ?_)
 ·refine Tot.get i0 h1 fun y hy hm=> ?_
  obtain⟨y0,y1,y2⟩:=h y hm;refine Tot.div2 y0 y2 ?_
  refine Tot.get (by omega) y1 fun z _ _=> ?_
  refine Tot.get i0 h1 fun w _ _=> ?_
  refine Tot.app (by simp only[List.length_singleton];omega) (by omega) ?_
  rw[wrap_ok (z:=i+1) (by omega)];refine Tot.next ⟨⟨⟨by simp only;omega,by simp only;omega⟩,by simp only[List.length_append,List.length_singleton];omega,fun x hx2=> ?_⟩,by simp only;omega⟩;rcases List.mem_append.1 hx2 with hx2 | hx2
  ·exact hx x hx2
  ·rw[List.mem_singleton.1 hx2];exact gxor_in _ _
 exact Tot.exit (Tot.ret ⟨by omega,hx⟩)
structure AddOf (n:SNet)(r:SNet×Int):Prop where
 inp:r.1.1=n.1
 sq:r.1.2.1=n.2.1
 ot:r.1.2.2.2=n.2.2.2
 an:r.1.2.2.1.length<=n.2.2.1.length+1
 ands:∀a∈r.1.2.2.1,I64 a.1/\I64 a.2
 lit:I64 r.2
theorem addAnd_tot {n:SNet}(h:NB n){a b:Int}(ha:I64 a)(hb:I64 b):Tot (spec_AddAnd (n,(a,b))) (AddOf n):=by
 unfold spec_AddAnd;dsimp only;have han:=h.an;have base:∀x,I64 x->AddOf n (n,x):=fun x hx=>⟨rfl,rfl,rfl,Nat.le_succ _,h.ands,hx⟩
 have lit:∀x,I64 x->Tot (some ((n,x):SNet×Int)) (AddOf n):=fun x hx=>Tot.ret (base x hx)
 have m1:I64 (-1):=by unfold I64;omega
 have z0:I64 0:=by unfold I64;omega
 refine Tot.bindEq (copy_ok h) ?_
 refine Tot.bindEq (nodeCount_ok n) ?_
 refine Tot.bind (netOk_tot h) fun ok hok=> ?_
 refine Tot.nite (fun _=>lit _ m1) (fun ho=> ?_);have hok:=hok ho;have hc:=caps_bd hok.caps;rw[if_pos hok.caps,lit_ok ha];refine Tot.bindEq rfl ?_
 refine Tot.ndite (fun _=>lit _ m1) (fun ha2=> ?_);rw[lit_ok hb];refine Tot.bindEq rfl ?_
 refine Tot.ndite (fun _=>lit _ m1) (fun hb2=> ?_);refine Tot.dite (fun _=>lit _ z0) (fun _=> ?_);refine Tot.dite (fun _=>lit _ z0) (fun _=> ?_);refine Tot.dite (fun _=>lit _ z0) (fun _=> ?_);refine Tot.dite (fun _=>lit _ hb) (fun _=> ?_);refine Tot.dite (fun _=>lit _ hb) (fun _=> ?_);refine Tot.dite (fun _=>lit _ ha) (fun _=> ?_);refine Tot.lp (fun i=>0<=i/\i<=(n.2.2.1.length:Int)) (fun i=>((n.2.2.1.length:Int) - i).toNat) ⟨by omega,by omega⟩ (fun i hi=> ?_);obtain⟨i0,i1⟩:=hi;refine Tot.dite (fun h1=> ?_) (fun h1=> ?_)
 ·refine Tot.get i0 h1 fun y _ _=> ?_
  refine Tot.ite (fun _=> ?_) (fun _=> ?_)
  ·refine Tot.bindEq (first_nok hok) ?_
   exact Tot.exit (lit _ (wrap_in _))
  ·rw[wrap_ok (z:=i+1) (by omega)];exact Tot.next ⟨⟨by omega,by omega⟩,by omega⟩
 refine Tot.exit ?_
 refine Tot.dite (fun _=>lit _ m1) (fun _=> ?_);refine Tot.app (by simp only[List.length_singleton];omega) (by omega) ?_
 refine Tot.ret ⟨rfl,rfl,rfl,by simp,fun q hq=> ?_,wrap_in _⟩;simp only at hq;rcases List.mem_append.1 hq with hq | hq
 ·exact h.ands q hq
 ·rw[List.mem_singleton.1 hq];refine⟨?_,?_⟩
  ·simp only;split;exact hb;exact ha
  ·simp only;split;exact hb;exact ha
end Go.Pf
/-
  Own work. Draws, plainly: cones, sweeping, hashing, drawn nets.
-/
namespace Go.Pf
open Go Go.Pu
set_option linter.unusedVariables false
def Low (m:Int)(xs:List Bool):Prop:=∀k:Nat,m<(k:Int)->xs.getD k false=false
theorem low_set {m:Int}{xs:List Bool}{i:Int}(h:Low m xs)(h0:0<=i)(hi:i<=m)(b:Bool):Low m (gset xs i b):=fun k hk=>by
 unfold gset;rw[List.getD,List.getElem?_set_ne (by omega)];exact h k hk
theorem and_at {n:SNet}(h:NOk n){i:Int}(h0:0<=i)(h1:i<(n.2.2.1.length:Int)):Lit (n.2.2.1.getD i.toNat (0,0)).1 (firstOf n+i)/\Lit (n.2.2.1.getD i.toNat (0,0)).2 (firstOf n+i):=by
 have:=h.ands i.toNat (by omega);have e:(i.toNat:Int)=i:=by omega
 rw[e]at this;exact this
theorem mark_tot {n:SNet}(h:NOk n){marks:List Bool}(hm:(marks.length:Int)=nodesOf n){m:Int}(hl:Low m marks):Tot (spec_l08Mark (n,marks)) (fun r=>(r.length:Int)=nodesOf n/\Low m r):=by
 unfold spec_l08Mark;dsimp only;have hc:=caps_bd h.caps;have han:=h.an;refine Tot.app (by simp only[List.length_nil];omega) (by omega) ?_
 rw[List.nil_append,wrap_ok (by omega)];refine Tot.lp (fun s=>(-1<=s.1/\s.1<(n.2.2.1.length:Int))/\(s.2.length:Int)=nodesOf n/\Low m s.2) (fun s=>(s.1+1).toNat) ⟨⟨by simp only;omega,by simp only;omega⟩,hm,hl⟩ (fun s hs=> ?_);obtain⟨i,r⟩:=s;obtain⟨⟨i0,i1⟩,hr,hlr⟩:=hs;simp only at i0 i1 hr hlr;dsimp only;refine Tot.dite (fun h1=> ?_) (fun h1=> ?_)
 ·refine Tot.bindEq (first_nok h) ?_
  rw[wrap_ok (z:=firstOf n+i) (by omega),wrap_ok (z:=i - 1) (by omega)];refine Tot.gin (by omega) (by omega) (Tot.get (by omega) (by omega) fun b hb _=> ?_);refine Tot.ite (fun hbt=> ?_) (fun _=> ?_)
  ·have hle:firstOf n+i<=m:=by
    by_cases c:m<firstOf n+i
    ·have:=hlr (firstOf n+i).toNat (by omega);rw[hb,this]at hbt;cases hbt
    ·omega
   refine Tot.get h1 i1 fun a ha _=> ?_
   have haa:=and_at h h1 i1;rw[<-ha]at haa;unfold Lit at haa;refine Tot.div2 (by omega) (by omega) ?_
   refine Tot.gin (by omega) (by omega) (Tot.get (by omega) (by omega) fun _ _ _=> ?_);refine Tot.get h1 i1 fun a2 ha2 _=> ?_
   have e:a2=a:=by rw[ha,ha2]
   subst e;refine Tot.div2 (by omega) (by omega) ?_
   refine Tot.gin (by omega) (by rw[gset_len];omega) (Tot.get (by omega) (by rw[gset_len];omega) fun _ _ _=> ?_);refine Tot.next ⟨⟨⟨by simp only;omega,by simp only;omega⟩,by simp only[gset_len];exact hr,low_set (low_set hlr (by omega) (by omega) _) (by omega) (by omega) _⟩,by simp only;omega⟩
  ·exact Tot.next ⟨⟨⟨by simp only;omega,by simp only;omega⟩,hr,hlr⟩,by simp only;omega⟩
 exact Tot.exit (Tot.ret ⟨hr,hlr⟩)
theorem reached_tot {n:SNet}(h:NOk n):Tot (spec_Reached n) (fun r=>r=[]\/(r.length:Int)=nodesOf n):=by
 unfold spec_Reached;have hc:=caps_bd h.caps;refine Tot.bind (netOk_tot h.nb) fun ok hok=> ?_
 dsimp only;refine Tot.nite (fun _=>Tot.ret (.inl rfl)) (fun _=> ?_);refine Tot.bindEq (nodeCount_nok h) ?_
 refine Tot.make (by omega) (by omega) (by omega) ?_
 refine Tot.bindEq (roots_ok h.nb) ?_
 have hrl:(rootsOf n).length<=1001000:=roots_len h.nb _;refine Tot.lp (fun s=>(0<=s.1/\s.1<=((rootsOf n).length:Int))/\(s.2.length:Int)=nodesOf n) (fun s=>(((rootsOf n).length:Int) - s.1).toNat) ⟨⟨by simp only;omega,by simp only;omega⟩,by simp only[List.length_replicate];omega⟩ (fun s hs=> ?_);obtain⟨i,r⟩:=s;obtain⟨⟨i0,i1⟩,hr⟩:=hs;simp only at i0 i1 hr;dsimp only;refine Tot.dite (fun h1=> ?_) (fun h1=> ?_)
 ·refine Tot.gin i0 h1 (Tot.get i0 h1 fun x _ hx=> ?_);have hlx:Lit x (nodesOf n):=by
   rcases roots_mem.1 hx with q | ⟨s,hs,q⟩
   ·exact h.outs x q
   ·exact(h.ins s hs).2 x q
  unfold Lit at hlx;refine Tot.div2 (by omega) (by omega) ?_
  refine Tot.gin (by omega) (by omega) (Tot.get (by omega) (by omega) fun _ _ _=> ?_);rw[wrap_ok (z:=i+1) (by omega)];exact Tot.next ⟨⟨⟨by simp only;omega,by simp only;omega⟩,by simp only[gset_len];exact hr⟩,by simp only;omega⟩
 refine Tot.exit ?_
 refine Tot.bind (mark_tot h hr (m:=1000000) (fun k hk=> ?_)) fun r hr=>Tot.ret (.inr hr.1)
 rw[List.getD,List.getElem?_eq_none (by omega)];rfl
theorem reached_nok {n:SNet}(h:NOk n)(hk:spec_NetOk n=some true):Tot (spec_Reached n) (fun r=>(r.length:Int)=nodesOf n):=by
 obtain⟨o,h1,h2⟩:=reached_tot h;refine⟨o,h1,?_⟩;rcases h2 with h2 | h2
 ·exfalso
  subst h2;unfold spec_Reached at h1;rw[hk]at h1;simp only[Option.bind_some,Bool.not_true,cond_false]at h1;rw[nodeCount_nok h]at h1;have hc:=caps_bd h.caps;have hrl:(rootsOf n).length<=1001000:=roots_len h.nb _;have key:Tot (spec_Reached n) (fun r=>(r.length:Int)=nodesOf n):=by
   unfold spec_Reached;refine Tot.bindEq hk ?_
   dsimp only;refine Tot.nite (fun e=>by cases e) (fun _=> ?_);refine Tot.bindEq (nodeCount_nok h) ?_
   refine Tot.make (by omega) (by omega) (by omega) ?_
   refine Tot.bindEq (roots_ok h.nb) ?_
   refine Tot.lp (fun s=>(0<=s.1/\s.1<=((rootsOf n).length:Int))/\(s.2.length:Int)=nodesOf n) (fun s=>(((rootsOf n).length:Int) - s.1).toNat) ⟨⟨by simp only;omega,by simp only;omega⟩,by simp only[List.length_replicate];omega⟩ (fun s hs=> ?_);obtain⟨i,r⟩:=s;obtain⟨⟨i0,i1⟩,hr⟩:=hs;simp only at i0 i1 hr;dsimp only;refine Tot.dite (fun h1=> ?_) (fun h1=> ?_)
   ·refine Tot.gin i0 h1 (Tot.get i0 h1 fun x _ hx=> ?_);have hlx:Lit x (nodesOf n):=by
     rcases roots_mem.1 hx with q | ⟨s,hs,q⟩
     ·exact h.outs x q
     ·exact(h.ins s hs).2 x q
    unfold Lit at hlx;refine Tot.div2 (by omega) (by omega) ?_
    refine Tot.gin (by omega) (by omega) (Tot.get (by omega) (by omega) fun _ _ _=> ?_);rw[wrap_ok (z:=i+1) (by omega)];exact Tot.next ⟨⟨⟨by simp only;omega,by simp only;omega⟩,by simp only[gset_len];exact hr⟩,by simp only;omega⟩
   refine Tot.exit ?_
   refine Tot.bind (mark_tot h hr (m:=1000000) (fun k hk=> ?_)) fun r hr=>Tot.ret hr.1
   rw[List.getD,List.getElem?_eq_none (by omega)];rfl
  obtain⟨o,k1,k2⟩:=key;unfold spec_Reached at k1;rw[hk]at k1;simp only[Option.bind_some,Bool.not_true,cond_false]at k1;rw[nodeCount_nok h]at k1;rw[h1]at k1;cases k1;simp only[List.length_nil]at k2;omega
 ·exact h2
theorem cone_tot {n:SNet}(h:NB n){v:Int}:Tot (spec_Cone (n,v)) (fun r=>r.length<=1000/\∀x∈r,0<=x/\x<=v/\NOk n/\v<nodesOf n):=by
 unfold spec_Cone;dsimp only;refine Tot.bind (netOk_tot h) fun ok hok=> ?_
 refine Tot.nite (fun _=>Tot.ret ⟨by simp,fun x hx=>(by cases hx)⟩) (fun ho=> ?_);have hn:=hok ho;have hc:=caps_bd hn.caps;refine Tot.dite (fun _=>Tot.ret ⟨by simp,fun x hx=>(by cases hx)⟩) (fun v0=> ?_);refine Tot.bindEq (nodeCount_nok hn) ?_
 refine Tot.dite (fun _=>Tot.ret ⟨by simp,fun x hx=>(by cases hx)⟩) (fun v1=> ?_);refine Tot.bindEq (nodeCount_nok hn) ?_
 refine Tot.make (by omega) (by omega) (by omega) ?_
 refine Tot.gin (by omega) (by rw[List.length_replicate];omega) (Tot.get (by omega) (by rw[List.length_replicate];omega) fun _ _ _=> ?_);refine Tot.bind (mark_tot hn (m:=v) (by rw[gset_len,List.length_replicate];omega) (low_set (fun k hk=> ?_) (by omega) (Int.le_refl _) _)) fun r hr=> ?_
 ·rw[List.getD];by_cases q:k<(nodesOf n).toNat
  ·rw[List.getElem?_replicate,if_pos q];rfl
  ·rw[List.getElem?_eq_none (by rw[List.length_replicate];omega)];rfl
 obtain⟨hr1,hr2⟩:=hr;refine Tot.lp (fun s=>(0<=s.1/\s.1<=(r.length:Int))/\(s.2.length:Int)<=s.1/\∀x∈s.2,0<=x/\x<=v) (fun s=>((r.length:Int) - s.1).toNat) ⟨⟨by simp only;omega,by simp only;omega⟩,by simp,fun x hx=>by simp at hx⟩ (fun s hs=> ?_);obtain⟨i,q⟩:=s;obtain⟨⟨i0,i1⟩,hq,hx⟩:=hs;simp only at i0 i1 hq hx;dsimp only;refine Tot.dite (fun h1=> ?_) (fun h1=> ?_)
 ·refine Tot.gin i0 h1 (Tot.get i0 h1 fun b hb _=> ?_);rw[wrap_ok (z:=i+1) (by omega)];refine Tot.ite (fun hbt=> ?_) (fun _=> ?_)
  ·refine Tot.app (by simp only[List.length_singleton];omega) (by omega) ?_
   refine Tot.next ⟨⟨⟨by simp only;omega,by simp only;omega⟩,by simp only[List.length_append,List.length_singleton];omega,fun x hx2=> ?_⟩,by simp only;omega⟩;rcases List.mem_append.1 hx2 with hx2 | hx2
   ·exact hx x hx2
   ·rw[List.mem_singleton.1 hx2];refine⟨i0,?_⟩;by_cases c:v<i
    ·have:=hr2 i.toNat (by omega);rw[hb,this]at hbt;cases hbt
    ·omega
  ·exact Tot.next ⟨⟨⟨by simp only;omega,by simp only;omega⟩,by simp only;omega,hx⟩,by simp only;omega⟩
 exact Tot.exit (Tot.ret ⟨by omega,fun x hx2=>⟨(hx x hx2).1,(hx x hx2).2,hn,by omega⟩⟩)
theorem nb_empty:NB (0,([],([],[]))):=⟨by simp,fun s hs=>(by cases hs),by simp,fun s hs=>(by cases hs),by simp,fun s hs=>(by cases hs)⟩
theorem lit_map {x m:Int}{L:Nat}(h:Lit x m)(hL:(L:Int)=m)(hm:m<=1000):0<=x/\x/2<(L:Int)/\x<=9223372036854775807:=by
 unfold Lit at h;omega
theorem sweep_tot {n:SNet}(h:NB n):Tot (spec_Sweep n) NB:=by
 unfold spec_Sweep;obtain⟨ok,hk,hok⟩:=netOk_tot h;refine Tot.bindEq hk ?_
 dsimp only;refine Tot.nite (fun _=>Tot.ret nb_empty) (fun ho=> ?_);subst ho;have hn:=hok rfl;have hc:=caps_bd hn.caps;have hsq:=hn.sq;have han:=hn.an;refine Tot.bind (reached_nok hn hk) fun keep hkeep=> ?_
 refine Tot.bind (empty_tot hn) fun r hr=> ?_
 obtain⟨⟨ri,rs,ra,ro⟩,to⟩:=r;obtain⟨q1,q2,q3,q4,q5,q6⟩:=hr;simp only at q1 q2 q3 q4 q5 q6;subst q1 q4 q5;refine Tot.bindEq (first_nok hn) ?_
 refine Tot.lp (fun s=>(0<=s.1/\s.1<=(n.2.2.1.length:Int))/\(s.2.1.length:Int)=firstOf n+s.1/\(s.2.2.2.length:Int)<=s.1/\(∀a∈s.2.2.2,I64 a.1/\I64 a.2)/\(0<=s.2.2.1/\s.2.2.1<=firstOf n+s.1)) (fun s=>((n.2.2.1.length:Int) - s.1).toNat) ⟨⟨by simp only;omega,by simp only;omega⟩,by simp only;omega,by simp,fun a ha=>by simp at ha,by simp only;omega,by simp only;omega⟩ (fun s hs=> ?_);obtain⟨i,to,nx,as⟩:=s;obtain⟨⟨i0,i1⟩,hto,has,haa,nx0,nx1⟩:=hs;simp only at i0 i1 hto has haa nx0 nx1;dsimp only;refine Tot.dite (fun h1=> ?_) (fun h1=> ?_)
 ·refine Tot.bindEq (first_nok hn) ?_
  rw[wrap_ok (z:=firstOf n+i) (by omega),wrap_ok (z:=i+1) (by omega)];refine Tot.gin (by omega) (by omega) (Tot.get (by omega) (by omega) fun b _ _=> ?_);refine Tot.nite (fun _=> ?_) (fun _=> ?_)
  ·refine Tot.app (by simp only[List.length_singleton];omega) (by omega) ?_
   exact Tot.next ⟨⟨⟨by simp only;omega,by simp only;omega⟩,by simp only[List.length_append,List.length_singleton];omega,by simp only;omega,haa,by simp only;omega,by simp only;omega⟩,by simp only;omega⟩
  ·refine Tot.get i0 h1 fun a ha _=> ?_
   refine Tot.get i0 h1 fun a2 ha2 _=> ?_
   have e:a2=a:=by rw[ha,ha2]
   subst e;have hl:=and_at hn i0 h1;rw[<-ha]at hl;refine Tot.bind (map10_tot (by simp) (fun x hx=> ?_)) fun v hv=> ?_
   ·simp only[List.mem_cons,List.not_mem_nil,or_false]at hx;rcases hx with rfl | rfl
    ·exact lit_map hl.1 hto (by omega)
    ·exact lit_map hl.2 hto (by omega)
   obtain⟨hv1,hv2⟩:=hv;simp only[List.length_cons,List.length_nil]at hv1;refine Tot.gin (by omega) (by omega) (Tot.get (by omega) (by omega) fun x _ hx=> ?_);refine Tot.gin (by omega) (by omega) (Tot.get (by omega) (by omega) fun y _ hy=> ?_);refine Tot.app (by simp only[List.length_singleton];omega) (by omega) ?_
   refine Tot.app (by simp only[List.length_singleton];omega) (by omega) ?_
   rw[wrap_ok (z:=nx+1) (by omega)];refine Tot.next ⟨⟨⟨by simp only;omega,by simp only;omega⟩,by simp only[List.length_append,List.length_singleton];omega,by simp only[List.length_append,List.length_singleton];omega,fun a ha2=> ?_,by simp only;omega,by simp only;omega⟩,by simp only;omega⟩;rcases List.mem_append.1 ha2 with ha2 | ha2
   ·exact haa a ha2
   ·rw[List.mem_singleton.1 ha2];exact⟨hv2 x hx,hv2 y hy⟩
 refine Tot.exit ?_
 have hto2:(to.length:Int)=nodesOf n:=by omega
 refine Tot.lp (fun s=>(0<=s.1/\s.1<=(n.2.1.length:Int))/\s.2.length=n.2.1.length/\∀q∈s.2,q.2.2.length<=4/\∀x∈q.2.2,I64 x) (fun s=>((n.2.1.length:Int) - s.1).toNat) ⟨⟨by simp only;omega,by simp only;omega⟩,q2,q3⟩ (fun s hs=> ?_);obtain⟨k,sq⟩:=s;obtain⟨⟨k0,k1⟩,hl2,hq⟩:=hs;simp only at k0 k1 hl2 hq;dsimp only;refine Tot.dite (fun h2=> ?_) (fun h2=> ?_)
 ·refine Tot.get k0 (by omega) fun y _ hm=> ?_
  refine Tot.bind (map10_tot (by have:=(hn.ins y hm).1;omega) (fun x hx=>lit_map ((hn.ins y hm).2 x hx) hto2 (by omega))) fun v hv=> ?_
  refine Tot.gin k0 h2 (Tot.get k0 h2 fun y2 _ _=> ?_);rw[wrap_ok (z:=k+1) (by omega)];refine Tot.next ⟨⟨⟨by simp only;omega,by simp only;omega⟩,by simp only[gset_len];exact hl2,fun q hq2=> ?_⟩,by simp only;omega⟩;rcases gset_mem hq2 with hq2 | rfl
  ·exact hq q hq2
  ·exact⟨by simp only;rw[hv.1];exact(hn.ins y hm).1,hv.2⟩
 refine Tot.exit ?_
 refine Tot.bind (map10_tot (by have:=hn.ot;omega) (fun x hx=>lit_map (hn.outs x hx) hto2 (by omega))) fun v hv=> ?_
 exact Tot.ret ⟨by simp only;omega,fun s hs=>⟨by have:=(hq s hs).1;omega,(hq s hs).2⟩,by simp only;omega,haa,by simp only;rw[hv.1];have:=hn.ot;omega,hv.2⟩
theorem finish_tot {o n:SNet}(ho:NB o)(hn:NOk n)(hsq:o.2.1.length=n.2.1.length){to:List Int}(hto:(to.length:Int)=nodesOf n):Tot (spec_l10Finish (o,(n,to))) (fun r=>NB r.1):=by
 unfold spec_l10Finish;dsimp only;have hc:=caps_bd hn.caps;have hs12:=hn.sq;refine Tot.lp (fun s=>(0<=s.1/\s.1<=(n.2.1.length:Int))/\s.2.length=n.2.1.length/\∀q∈s.2,q.2.2.length<=1000/\∀x∈q.2.2,I64 x) (fun s=>((n.2.1.length:Int) - s.1).toNat) ⟨⟨by simp only;omega,by simp only;omega⟩,hsq,ho.ins⟩ (fun s hs=> ?_);obtain⟨k,sq⟩:=s;obtain⟨⟨k0,k1⟩,hl2,hq⟩:=hs;simp only at k0 k1 hl2 hq;dsimp only;refine Tot.dite (fun h2=> ?_) (fun h2=> ?_)
 ·refine Tot.get k0 (by omega) fun y _ hm=> ?_
  refine Tot.bind (map10_tot (by have:=(hn.ins y hm).1;omega) (fun x hx=>lit_map ((hn.ins y hm).2 x hx) hto (by omega))) fun v hv=> ?_
  refine Tot.gin k0 h2 (Tot.get k0 h2 fun y2 _ _=> ?_);rw[wrap_ok (z:=k+1) (by omega)];refine Tot.next ⟨⟨⟨by simp only;omega,by simp only;omega⟩,by simp only[gset_len];exact hl2,fun q hq2=> ?_⟩,by simp only;omega⟩;rcases gset_mem hq2 with hq2 | rfl
  ·exact hq q hq2
  ·exact⟨by simp only;rw[hv.1];have:=(hn.ins y hm).1;omega,hv.2⟩
 refine Tot.exit ?_
 refine Tot.bind (map10_tot (by have:=hn.ot;omega) (fun x hx=>lit_map (hn.outs x hx) hto (by omega))) fun v hv=> ?_
 refine Tot.bind (sweep_tot (n:=(o.1,(sq,(o.2.2.1,v)))) ⟨by simp only;omega,hq,ho.an,ho.ands,by simp only;rw[hv.1];have:=hn.ot;omega,hv.2⟩) fun r hr=> ?_
 exact Tot.ret hr
theorem hash_tot {n:SNet}(h:NB n):Tot (spec_Hash n) NB:=by
 unfold spec_Hash;refine Tot.bind (netOk_tot h) fun ok hok=> ?_
 dsimp only;refine Tot.nite (fun _=>Tot.ret nb_empty) (fun ho=> ?_);have hn:=hok ho;have hc:=caps_bd hn.caps;have hsq:=hn.sq;have han:=hn.an;refine Tot.bind (empty_tot hn) fun r hr=> ?_
 obtain⟨⟨ri,rs,ra,ro⟩,to⟩:=r;obtain⟨q1,q2,q3,q4,q5,q6⟩:=hr;simp only at q1 q2 q3 q4 q5 q6;subst q1 q4 q5;refine Tot.lp (fun s=>(0<=s.1/\s.1<=(n.2.2.1.length:Int))/\s.2.1.length=n.2.1.length/\NB (s.2.2.2.2.2,(s.2.1,(s.2.2.1,s.2.2.2.1)))/\(s.2.2.1.length:Int)<=s.1/\(s.2.2.2.2.1.length:Int)=firstOf n+s.1) (fun s=>((n.2.2.1.length:Int) - s.1).toNat)
  ⟨⟨by simp only;omega,by simp only;omega⟩,q2,⟨by simp only;omega,fun s hs=>⟨by have:=(q3 s hs).1;omega,(q3 s hs).2⟩,by simp,fun a ha=>(by cases ha),by simp,fun a ha=>(by cases ha)⟩,by simp,by simp only;omega⟩ (fun s hs=> ?_)
 obtain⟨i,sq,as,os,to,inp⟩:=s;obtain⟨⟨i0,i1⟩,hl,hb,hal,htl⟩:=hs;simp only at i0 i1 hl hb hal htl;dsimp only;refine Tot.dite (fun h1=> ?_) (fun h1=> ?_)
 ·have hlit:=and_at hn i0 h1;refine Tot.get i0 h1 fun a ha _=> ?_
  rw[<-ha]at hlit;unfold Lit at hlit;refine Tot.div2 (by omega) (by omega) ?_
  refine Tot.gin (by omega) (by omega) (Tot.get (by omega) (by omega) fun x _ _=> ?_);refine Tot.get i0 h1 fun a2 _ _=> ?_
  refine Tot.get i0 h1 fun a3 ha3 _=> ?_
  have e:a3=a:=by rw[ha,ha3]
  subst e;refine Tot.div2 (by omega) (by omega) ?_
  refine Tot.gin (by omega) (by omega) (Tot.get (by omega) (by omega) fun y _ _=> ?_);refine Tot.get i0 h1 fun a4 _ _=> ?_
  refine Tot.bind (addAnd_tot hb (gxor_in _ _) (gxor_in _ _)) fun r hr=> ?_
  obtain⟨⟨mi,ms,ma,mo⟩,z⟩:=r;obtain⟨r1,r2,r3,r4,r5,r6⟩:=hr;simp only at r1 r2 r3 r4 r5 r6;subst r1 r2 r3;refine Tot.app (by simp only[List.length_singleton];omega) (by omega) ?_
  rw[wrap_ok (z:=i+1) (by omega)];refine Tot.next ⟨⟨⟨by simp only;omega,by simp only;omega⟩,hl,⟨hb.sq,hb.ins,by simp only;omega,r5,hb.ot,hb.outs⟩,by simp only;omega,by simp only[List.length_append,List.length_singleton];omega⟩,by simp only;omega⟩
 refine Tot.exit ?_
 refine Tot.bind (finish_tot hb hn hl (by omega)) fun r hr=>Tot.ret hr
end Go.Pf
/-
  Own work. Draws, plainly: drawn nets, cuts, their tables, LUT networks out of mapped nets.
-/
namespace Go.Pf
open Go Go.Pu
set_option linter.unusedVariables false
theorem sized_tot {b:List Int}{c:Cur}(hb:CdOk b)(hc:CurOk b c){p q r:Int}(hp:p<=100)(hq:0<=q/\q<=100)(hr:0<=r/\r<=100):Tot (spec_l08Sized ((b,c),(p,(q,r)))) (fun o=>NB o.1/\CurOk b o.2):=by
 unfold spec_l08Sized;dsimp only;refine Tot.below hb hc fun x1 c1 k1 z1 y1=> ?_
 have hx1:0<=x1/\x1<=100:=by
  by_cases h:0<p
  ·have:=y1 h;omega
  ·have:=z1 (by omega);omega
 rw[wrap_ok (z:=1+x1) (by omega),wrap_ok (z:=q+1) (by omega),wrap_ok (z:=r+1) (by omega),wrap_ok (z:=1+(1+x1)) (by omega)];refine Tot.below hb k1 fun x2 c2 k2 _ y2=> ?_
 have hx2:=y2 (by omega);refine Tot.below hb k2 fun x3 c3 k3 _ y3=> ?_
 have hx3:=y3 (by omega);simp only;rw[wrap_ok (z:=1+(1+x1)+x2) (by omega)];refine Tot.lp (fun s=>(0<=s.1/\s.1<=x3)/\CurOk b (s.2.1,s.2.2.1)/\(s.2.2.2.length:Int)<=s.1/\∀a∈s.2.2.2,I64 a.1/\I64 a.2) (fun s=>(x3 - s.1).toNat) ⟨⟨by simp only;omega,by simp only;omega⟩,k3,by simp,fun a ha=>by cases ha⟩ (fun s hs=> ?_);obtain⟨i,u,v,as⟩:=s;obtain⟨⟨i0,i1⟩,hcu,hl,ha⟩:=hs;simp only at i0 i1 hcu hl ha;dsimp only;refine Tot.dite (fun h1=> ?_) (fun h1=> ?_)
 ·rw[wrap_ok (z:=1+(1+x1)+x2+i) (by omega),wrap_ok (z:=2*(1+(1+x1)+x2+i)) (by omega),wrap_ok (z:=i+1) (by omega)];refine Tot.below hb hcu fun x4 c4 k4 _ _=> ?_
  refine Tot.below hb k4 fun x5 c5 k5 _ y5=> ?_
  have hx5:=y5 (by omega);refine Tot.app (by simp only[List.length_singleton];omega) (by omega) ?_
  refine Tot.next ⟨⟨⟨by simp only;omega,by simp only;omega⟩,k5,by simp only[List.length_append,List.length_singleton];omega,fun a ham=> ?_⟩,by simp only;omega⟩;rcases List.mem_append.1 ham with ham | ham
  ·exact ha a ham
  ·rw[List.mem_singleton.1 ham];exact⟨wrap_in _,by unfold I64;simp only;omega⟩
 refine Tot.exit ?_
 rw[wrap_ok (z:=1+(1+x1)+x2+x3) (by omega),wrap_ok (z:=2*(1+(1+x1)+x2+x3)) (by omega)];refine Tot.lp (fun s=>(0<=s.1/\s.1<=x2)/\CurOk b (s.2.1,s.2.2.1)/\(s.2.2.2.length:Int)<=s.1/\∀a∈s.2.2.2,a.2.2.length<=4/\∀x∈a.2.2,I64 x) (fun s=>(x2 - s.1).toNat) ⟨⟨by simp only;omega,by simp only;omega⟩,hcu,by simp,fun a ha=>by cases ha⟩ (fun s hs=> ?_);obtain⟨j,u2,v2,sq⟩:=s;obtain⟨⟨j0,j1⟩,hcu2,hl2,hs2⟩:=hs;simp only at j0 j1 hcu2 hl2 hs2;dsimp only;refine Tot.dite (fun h2=> ?_) (fun h2=> ?_)
 ·have bel:∀x,0<=x/\x<2*(1+(1+x1)+x2+x3)->I64 x:=fun x hx=>by unfold I64;omega
  refine Tot.join (A:=fun a=>CurOk b (a.1,a.2.1)/\(a.2.2.length:Int)<=j+1/\∀q∈a.2.2,q.2.2.length<=4/\∀x∈q.2.2,I64 x) ?_ fun a ha2=> ?_
  ·refine Tot.once hb hcu2 fun f c6 k6=> ?_
   refine Tot.ite (fun _=> ?_) (fun _=> ?_)
   ·refine Tot.below hb k6 fun x7 c7 k7 _ _=> ?_
    refine Tot.below hb k7 fun x8 c8 k8 _ y8=> ?_
    refine Tot.below hb k8 fun x9 c9 k9 _ y9=> ?_
    refine Tot.below hb k9 fun xa ca ka _ ya=> ?_
    refine Tot.below hb ka fun xb cb kb _ yb=> ?_
    refine Tot.app (by simp only[List.length_singleton];omega) (by omega) ?_
    refine Tot.next ⟨kb,by simp only[List.length_append,List.length_singleton];omega,fun q hq=> ?_⟩;rcases List.mem_append.1 hq with hq | hq
    ·exact hs2 q hq
    ·rw[List.mem_singleton.1 hq];refine⟨by simp,fun x hx=> ?_⟩;simp only[List.mem_cons,List.not_mem_nil,or_false]at hx;rcases hx with rfl | rfl | rfl | rfl
     ·exact bel _ (y8 (by omega))
     ·exact bel _ (y9 (by omega))
     ·exact bel _ (ya (by omega))
     ·exact bel _ (yb (by omega))
   ·refine Tot.below hb k6 fun x7 c7 k7 _ _=> ?_
    refine Tot.below hb k7 fun x8 c8 k8 _ _=> ?_
    refine Tot.app (by simp only[List.length_singleton];omega) (by omega) ?_
    refine Tot.next ⟨k8,by simp only[List.length_append,List.length_singleton];omega,fun q hq=> ?_⟩;rcases List.mem_append.1 hq with hq | hq
    ·exact hs2 q hq
    ·rw[List.mem_singleton.1 hq];refine⟨by simp,fun x hx=> ?_⟩;rw[List.mem_singleton.1 hx];exact wrap_in _
  ·rw[wrap_ok (z:=j+1) (by omega)];exact Tot.next ⟨⟨⟨by simp only;omega,by simp only;omega⟩,ha2.1,ha2.2.1,ha2.2.2⟩,by simp only;omega⟩
 refine Tot.exit ?_
 refine Tot.below hb hcu2 fun x6 c6 k6 _ y6=> ?_
 have hx6:=y6 (by omega);refine Tot.lp (fun s=>(-1<=s.1/\s.1<=4)/\CurOk b (s.2.1,s.2.2.1)/\(s.2.2.2.length:Int)+s.1<=4/\∀x∈s.2.2.2,I64 x) (fun s=>(s.1+1).toNat) ⟨⟨by simp only;omega,by simp only;omega⟩,k6,by simp only[List.length_nil];omega,fun a ha=>by cases ha⟩ (fun s hs=> ?_);obtain⟨k,u3,v3,os⟩:=s;obtain⟨⟨m0,m1⟩,hcu3,hl3,ho3⟩:=hs;simp only at m0 m1 hcu3 hl3 ho3;dsimp only;refine Tot.dite (fun h3=> ?_) (fun h3=> ?_)
 ·refine Tot.below hb hcu3 fun x7 c7 k7 _ _=> ?_
  refine Tot.app (by simp only[List.length_singleton];omega) (by omega) ?_
  rw[wrap_ok (z:=k - 1) (by omega)];refine Tot.next ⟨⟨⟨by simp only;omega,by simp only;omega⟩,k7,by simp only[List.length_append,List.length_singleton];omega,fun x hx=> ?_⟩,by simp only;omega⟩;rcases List.mem_append.1 hx with hx | hx
  ·exact ho3 x hx
  ·rw[List.mem_singleton.1 hx];exact wrap_in _
 exact Tot.exit (Tot.ret ⟨⟨by simp only;omega,fun s hs=>⟨by have:=(hs2 s hs).1;omega,(hs2 s hs).2⟩,by simp only;omega,ha,by simp only;omega,ho3⟩,hcu3⟩)
theorem has13 (xs:List Int)(x:Int)(h:xs.length<=1000000):spec_l13Has (xs,x)=some (decide (x∈xs)):=has_spec xs x (by omega)
structure CutIn (n:SNet)(v:Int)(cut:List Int):Prop where
 ok:NOk n
 v0:0<=v
 v1:v<nodesOf n
 len:cut.length<=4
 mem:∀x∈cut,0<=x/\x<=v
theorem cutOk_tot {n:SNet}(h:NB n){v:Int}{cut:List Int}(hl:cut.length<=1000000):Tot (spec_CutOk (n,(v,cut))) (fun r=>r=true->CutIn n v cut):=by
 unfold spec_CutOk;dsimp only;have fals:Tot (some false) (fun r=>r=true->CutIn n v cut):=Tot.ret (fun h=>by cases h);refine Tot.bind (netOk_tot h) fun ok hok=> ?_
 refine Tot.nite (fun _=>fals) (fun ho=> ?_);have hn:=hok ho;have hc:=caps_bd hn.caps;refine Tot.dite (fun _=>fals) (fun v0=> ?_);refine Tot.bindEq (nodeCount_nok hn) ?_
 refine Tot.dite (fun _=>fals) (fun v1=> ?_);refine Tot.dite (fun _=>fals) (fun h4=> ?_);refine Tot.bind (cone_tot h) fun cone hcone=> ?_
 refine Tot.lp (fun i=>(0<=i/\i<=(cut.length:Int))/\∀x∈cut.take i.toNat,0<=x/\x<=v) (fun i=>((cut.length:Int) - i).toNat) ⟨⟨by omega,by omega⟩,fun s hs=>by simp at hs⟩ (fun i hi=> ?_);obtain⟨⟨i0,i1⟩,hi⟩:=hi;refine Tot.dite (fun h1=> ?_) (fun h1=> ?_)
 ·refine Tot.get i0 h1 fun x hx _=> ?_
  rw[has13 _ _ (by omega)];refine Tot.bindEq rfl ?_
  refine Tot.ndite (fun _=>Tot.exit fals) (fun hm=> ?_);have hxm:=hcone.2 x hm;rw[wrap_ok (z:=i+1) (by omega)];have nxt:Tot (some (Sum.inl (i+1):Int⊕Bool)) (SumP (fun i' =>((0<=i'∧i'≤(cut.length:Int))/\∀x∈cut.take i'.toNat,0<=x/\x<=v)/\((cut.length:Int) - i').toNat<((cut.length:Int) - i).toNat) (fun r=>r=true->CutIn n v cut)):=
   Tot.next ⟨⟨⟨by omega,by omega⟩,take_all i0 h1 hi (by rw[<-hx];exact⟨hxm.1,hxm.2.1⟩)⟩,by omega⟩
  refine Tot.dite (fun hi0=> ?_) (fun _=>nxt);refine Tot.get i0 h1 fun y _ _=> ?_
  rw[wrap_ok (z:=i - 1) (by omega)];refine Tot.get (by omega) (by omega) fun z _ _=> ?_
  exact Tot.dite (fun _=>Tot.exit fals) (fun _=>nxt)
 refine Tot.exit ?_
 have e1:i.toNat=cut.length:=by omega
 rw[e1,List.take_length]at hi;refine Tot.bindEq (nodeCount_nok hn) ?_
 refine Tot.make (by omega) (by omega) (by omega) ?_
 refine Tot.gin (by omega) (by rw[List.length_replicate];omega) (Tot.get (by omega) (by rw[List.length_replicate];omega) fun _ _ _=> ?_);refine Tot.lp (fun s=>(0<=s.1/\s.1<=v)/\(s.2.length:Int)=nodesOf n) (fun s=>s.1.toNat) ⟨⟨by simp only;omega,by simp only;omega⟩,by simp only[gset_len,List.length_replicate];omega⟩ (fun s hs=> ?_);obtain⟨k,op⟩:=s;obtain⟨⟨k0,k1⟩,hop⟩:=hs;simp only at k0 k1 hop;dsimp only;refine Tot.dite (fun h2=> ?_) (fun h2=> ?_)
 ·rw[wrap_ok (z:=k - 1) (by omega)];refine Tot.gin (by omega) (by omega) (Tot.get (by omega) (by omega) fun _ _ _=> ?_);have nxt:∀q:List Bool,(q.length:Int)=nodesOf n->Tot (some (Sum.inl (k - 1,q):(Int×List Bool)⊕Bool)) (SumP (fun s' =>((0<=s'.1/\s'.1<=v)/\(s'.2.length:Int)=nodesOf n)/\s'.1.toNat<k.toNat) (fun r=>r=true->CutIn n v cut)):=fun q hq=>
   Tot.next ⟨⟨⟨by simp only;omega,by simp only;omega⟩,hq⟩,by simp only;omega⟩
  refine Tot.nite (fun _=>nxt op hop) (fun _=> ?_);rw[has13 _ _ (by omega)];refine Tot.bindEq rfl ?_
  refine Tot.dite (fun _=>nxt op hop) (fun _=> ?_);refine Tot.bindEq (first_nok hn) ?_
  refine Tot.dite (fun _=>Tot.exit fals) (fun hkf=> ?_);refine Tot.bindEq (first_nok hn) ?_
  rw[wrap_ok (z:=k - firstOf n) (by omega)];refine Tot.get (by omega) (by omega) fun a ha _=> ?_
  have hl2:=and_at hn (show 0<=k - firstOf n by omega) (by omega);rw[<-ha]at hl2;unfold Lit at hl2;refine Tot.div2 (by omega) (by omega) ?_
  refine Tot.gin (by omega) (by omega) (Tot.get (by omega) (by omega) fun _ _ _=> ?_);refine Tot.div2 (by omega) (by omega) ?_
  refine Tot.gin (by omega) (by rw[gset_len];omega) (Tot.get (by omega) (by rw[gset_len];omega) fun _ _ _=> ?_);exact nxt _ (by rw[gset_len,gset_len];exact hop)
 exact Tot.exit (Tot.ret fun _=>⟨hn,by omega,by omega,by omega,hi⟩)
structure MapIn (n:SNet)(cuts:List (List Int)):Prop where
 ok:NOk n
 len:cuts.length=n.2.2.1.length
 cut:∀i,i<cuts.length->(cuts.getD i []).length<=4/\∀x∈cuts.getD i [],0<=x/\x<firstOf n+(i:Int)
theorem mapOk_tot {n:SNet}(h:NB n){cuts:List (List Int)}(hl:∀c∈cuts,c.length<=1000):Tot (spec_MappingOk (n,cuts)) (fun r=>r=true->MapIn n cuts):=by
 unfold spec_MappingOk;dsimp only;have fals:Tot (some false) (fun r=>r=true->MapIn n cuts):=Tot.ret (fun h=>by cases h);refine Tot.bind (netOk_tot h) fun ok hok=> ?_
 refine Tot.nite (fun _=>fals) (fun ho=> ?_);have hn:=hok ho;have hc:=caps_bd hn.caps;have han:=hn.an;refine Tot.dite (fun _=>fals) (fun hlen=> ?_);have hlen:cuts.length=n.2.2.1.length:=by omega
 refine Tot.lp (fun i=>(0<=i/\i<=(cuts.length:Int))/\∀k:Nat,(k:Int)<i->(cuts.getD k []).length<=4/\∀x∈cuts.getD k [],0<=x/\x<firstOf n+(k:Int)) (fun i=>((cuts.length:Int) - i).toNat) ⟨⟨by omega,by omega⟩,fun k hk=>by omega⟩ (fun i hi=> ?_);obtain⟨⟨i0,i1⟩,hi⟩:=hi;refine Tot.dite (fun h1=> ?_) (fun h1=> ?_)
 ·refine Tot.get i0 h1 fun c hcd hm=> ?_
  have hcl:=hl c hm;refine Tot.bindEq (first_nok hn) ?_
  rw[wrap_ok (z:=firstOf n+i) (by omega),wrap_ok (z:=i+1) (by omega)];refine Tot.bind (cutOk_tot h (by omega)) fun b hb=> ?_
  refine Tot.nite (fun _=>Tot.exit fals) (fun hbt=> ?_);have hcut:=hb hbt;refine Tot.get i0 h1 fun c2 hc2 _=> ?_
  have e:c2=c:=by rw[hcd,hc2]
  subst e;refine Tot.bindEq (first_nok hn) ?_
  rw[wrap_ok (z:=firstOf n+i) (by omega),has13 _ _ (by omega)];refine Tot.bindEq rfl ?_
  refine Tot.dite (fun _=>Tot.exit fals) (fun hnm=> ?_);refine Tot.next ⟨⟨⟨by omega,by omega⟩,fun k hk=> ?_⟩,by omega⟩;by_cases q:(k:Int)<i
  ·exact hi k q
  ·have e3:i.toNat=k:=by omega
   rw[e3]at hcd;rw[<-hcd];refine⟨hcut.len,fun x hx=> ?_⟩;have hx2:=hcut.mem x hx;have hne:x≠firstOf n+i:=fun e=>by subst e;exact hnm hx
   omega
 exact Tot.exit (Tot.ret fun _=>⟨hn,hlen,fun k hk=>hi k (by omega)⟩)
theorem bit_tot {v:List Int}{x:Int}(h0:0<=x)(h1:x/2<(v.length:Int))(h2:x<=9223372036854775807):Tot (spec_l09Bit (v,x)) (fun _=>True):=by
 unfold spec_l09Bit;dsimp only;refine Tot.div2 h0 h2 ?_
 refine Tot.get (by omega) h1 fun _ _ _=> ?_
 exact Tot.ret trivial
theorem shl_one {k:Int}(h:0<=k/\k<=4):∃m:Int,gshift true .i64 1 k=some m/\1<=m/\m<=16:=by
 have:k=0\/k=1\/k=2\/k=3\/k=4:=by omega
 rcases this with rfl | rfl | rfl | rfl | rfl
 ·exact⟨1,rfl,by omega,by omega⟩
 ·exact⟨2,rfl,by omega,by omega⟩
 ·exact⟨4,rfl,by omega,by omega⟩
 ·exact⟨8,rfl,by omega,by omega⟩
 ·exact⟨16,rfl,by omega,by omega⟩
theorem shift_tot {β:Type}{l:Bool}{a b:Int}{k:Int->Option β}{Q:β->Prop}(h:0<=b/\b<64)(hk:∀z,Tot (k z) Q):Tot ((gshift l .i64 a b).bind k) Q:=by
 unfold gshift;rw[if_pos (show 0<=b/\b<((IntKind.i64).bits:Int)from h)];exact hk _
theorem cutTable_tot {n:SNet}(h:NB n){v:Int}{cut:List Int}(hl:cut.length<=1000000):Tot (spec_CutTable (n,(v,cut))) (fun _=>True):=by
 unfold spec_CutTable;dsimp only;refine Tot.bind (cutOk_tot h hl) fun b hb=> ?_
 refine Tot.nite (fun _=>Tot.ret trivial) (fun hbt=> ?_);obtain⟨hn,v0,v1,h4,hmem⟩:=hb hbt;have hc:=caps_bd hn.caps;obtain⟨M,hM,hM0,hM1⟩:=shl_one (k:=(cut.length:Int)) (by omega);rw[hM];refine Tot.lp (fun s=>0<=s.1/\s.1<=M) (fun s=>(M - s.1).toNat) ⟨by simp only;omega,by simp only;omega⟩ (fun s hs=> ?_);obtain⟨i,acc⟩:=s;obtain⟨i0,i1⟩:=hs;simp only at i0 i1;refine Tot.bindEq rfl ?_
 dsimp only;refine Tot.dite (fun h1=> ?_) (fun h1=>Tot.exit (Tot.ret trivial));refine Tot.bindEq (nodeCount_nok hn) ?_
 refine Tot.make (by omega) (by omega) (by omega) ?_
 refine Tot.lp (fun s=>(0<=s.1/\s.1<=v+1)/\(s.2.length:Int)=nodesOf n) (fun s=>(v+1 - s.1).toNat) ⟨⟨by simp only;omega,by simp only;omega⟩,by simp only[List.length_replicate];omega⟩ (fun s hs=> ?_);obtain⟨k,vs⟩:=s;obtain⟨⟨k0,k1⟩,hv⟩:=hs;simp only at k0 k1 hv;dsimp only;refine Tot.dite (fun h2=> ?_) (fun h2=> ?_)
 ·refine Tot.lp (fun s=>(0<=s.2.1/\s.2.1<=(cut.length:Int))/\(s.2.2.length:Int)=nodesOf n) (fun s=>((cut.length:Int) - s.2.1).toNat) ⟨⟨by simp only;omega,by simp only;omega⟩,hv⟩ (fun s hs=> ?_);obtain⟨st,j,ws⟩:=s;obtain⟨⟨j0,j1⟩,hw⟩:=hs;simp only at j0 j1 hw;dsimp only;refine Tot.dite (fun h3=> ?_) (fun h3=> ?_)
  ·rw[wrap_ok (z:=j+1) (by omega)];refine Tot.get j0 h3 fun x _ _=> ?_
   refine Tot.dite (fun _=> ?_) (fun _=> ?_)
   ·refine shift_tot (by omega) fun z=> ?_
    refine Tot.gin (by omega) (by omega) (Tot.get (by omega) (by omega) fun _ _ _=> ?_);exact Tot.next ⟨⟨⟨by simp only;omega,by simp only;omega⟩,by simp only[gset_len];exact hw⟩,by simp only;omega⟩
   ·exact Tot.next ⟨⟨⟨by simp only;omega,by simp only;omega⟩,hw⟩,by simp only;omega⟩
  refine Tot.exit ?_
  rw[wrap_ok (z:=k+1) (by omega)];have nxt:∀q:List Int,(q.length:Int)=nodesOf n->Tot (some (Sum.inl (k+1,q):(Int×List Int)⊕((Int×Int)⊕(Int×Int)))) (SumP (fun s' =>((0<=s'.1/\s'.1<=v+1)/\(s'.2.length:Int)=nodesOf n)/\(v+1 - s'.1).toNat<(v+1 - k).toNat) (SumP (fun s' =>(0<=s'.1/\s'.1<=M)/\(M - s'.1).toNat<(M - i).toNat) (fun _=>True))):=fun q hq=>
   Tot.next ⟨⟨⟨by simp only;omega,by simp only;omega⟩,hq⟩,by simp only;omega⟩
  refine Tot.nite (fun _=> ?_) (fun _=>nxt ws hw);refine Tot.bindEq (first_nok hn) ?_
  refine Tot.dite (fun hkf=> ?_) (fun _=>nxt ws hw);refine Tot.bindEq (first_nok hn) ?_
  rw[wrap_ok (z:=k - firstOf n) (by omega)];refine Tot.get (by omega) (by omega) fun a ha _=> ?_
  have hl2:=and_at hn (show 0<=k - firstOf n by omega) (by omega);rw[<-ha]at hl2;unfold Lit at hl2;refine Tot.bind (bit_tot (by omega) (by omega) (by omega)) fun _ _=> ?_
  refine Tot.bind (bit_tot (by omega) (by omega) (by omega)) fun _ _=> ?_
  refine Tot.gin (by omega) (by omega) (Tot.get (by omega) (by omega) fun _ _ _=> ?_);exact nxt _ (by rw[gset_len];exact hw)
 refine Tot.exit ?_
 refine Tot.gin (by omega) (by omega) (Tot.get (by omega) (by omega) fun _ _ _=> ?_);refine shift_tot (by omega) fun z=> ?_
 rw[wrap_ok (z:=i+1) (by omega)];exact Tot.next ⟨⟨by simp only;omega,by simp only;omega⟩,by simp only;omega⟩
theorem tableNot_tot (t:Int×Int):Tot (spec_TableNot t) (fun _=>True):=by
 unfold spec_TableNot;refine Tot.bindEq (tbl_spec t.1 t.2) ?_
 dsimp only;refine Tot.ndite (fun _=>Tot.ret trivial) (fun h=> ?_);refine Tot.bindEq (full_cases h.1) ?_
 exact Tot.ret trivial
theorem nodes20_tot {to list:List Int}(hl:list.length<=1000)(h:∀x∈list,0<=x/\x<(to.length:Int)):Tot (spec_l20Nodes (to,list)) (fun r=>r.length=list.length):=by
 unfold spec_l20Nodes;dsimp only;refine Tot.lp (fun s=>(0<=s.1/\s.1<=(list.length:Int))/\(s.2.length:Int)=s.1) (fun s=>((list.length:Int) - s.1).toNat) ⟨⟨by simp only;omega,by simp only;omega⟩,by simp⟩ (fun s hs=> ?_);obtain⟨i,r⟩:=s;obtain⟨⟨i0,i1⟩,hr⟩:=hs;simp only at i0 i1 hr;dsimp only;refine Tot.dite (fun h1=> ?_) (fun h1=> ?_)
 ·refine Tot.get i0 h1 fun y hy hm=> ?_
  refine Tot.get (h y hm).1 (h y hm).2 fun z _ _=> ?_
  refine Tot.app (by simp only[List.length_singleton];omega) (by omega) ?_
  rw[wrap_ok (z:=i+1) (by omega)];exact Tot.next ⟨⟨⟨by simp only;omega,by simp only;omega⟩,by simp only[List.length_append,List.length_singleton];omega⟩,by simp only;omega⟩
 exact Tot.exit (Tot.ret (by omega))
theorem roots20_tot {to neg list:List Int}{m:Int}(hl:list.length<=1000)(ht:(to.length:Int)=m)(hng:(neg.length:Int)=m)(h:∀x∈list,Lit x m)(hm:m<=1000):Tot (spec_l20Roots (to,(neg,list))) (fun r=>r.length=list.length):=by
 unfold spec_l20Roots;dsimp only;refine Tot.lp (fun s=>(0<=s.1/\s.1<=(list.length:Int))/\(s.2.length:Int)=s.1) (fun s=>((list.length:Int) - s.1).toNat) ⟨⟨by simp only;omega,by simp only;omega⟩,by simp⟩ (fun s hs=> ?_);obtain⟨i,r⟩:=s;obtain⟨⟨i0,i1⟩,hr⟩:=hs;simp only at i0 i1 hr;dsimp only;refine Tot.dite (fun h1=> ?_) (fun h1=> ?_)
 ·rw[wrap_ok (z:=i+1) (by omega)];refine Tot.get i0 h1 fun y hy hm=> ?_
  have hy2:=h y hm;unfold Lit at hy2;refine Tot.rem (by omega) (by omega) ?_
  refine Tot.dite (fun _=> ?_) (fun _=> ?_)
  ·refine Tot.get i0 h1 fun y2 hy2' _=> ?_
   have e:y2=y:=by rw[hy,hy2']
   subst e;refine Tot.div2 (by omega) (by omega) ?_
   refine Tot.get (by omega) (by omega) fun z _ _=> ?_
   refine Tot.app (by simp only[List.length_singleton];omega) (by omega) ?_
   exact Tot.next ⟨⟨⟨by simp only;omega,by simp only;omega⟩,by simp only[List.length_append,List.length_singleton];omega⟩,by simp only;omega⟩
  ·refine Tot.get i0 h1 fun y2 hy2' _=> ?_
   have e:y2=y:=by rw[hy,hy2']
   subst e;refine Tot.div2 (by omega) (by omega) ?_
   refine Tot.get (by omega) (by omega) fun z _ _=> ?_
   refine Tot.app (by simp only[List.length_singleton];omega) (by omega) ?_
   exact Tot.next ⟨⟨⟨by simp only;omega,by simp only;omega⟩,by simp only[List.length_append,List.length_singleton];omega⟩,by simp only;omega⟩
 exact Tot.exit (Tot.ret (by omega))
end Go.Pf
/-
  Own work. Draws, plainly: LUT networks out of mapped nets.
-/
namespace Go.Pf
open Go Go.Pu
set_option linter.unusedVariables false
structure LB (l:Net):Prop where
 sq:l.2.1.length<=1000
 ins:∀s∈l.2.1,List.length s.2.2<=1000
 lt:l.2.2.1.length<=1000
 lins:∀x∈l.2.2.1,List.length x.1<=1000
 ot:l.2.2.2.length<=1000
theorem LB.netB {l:Net}(h:LB l):NetB l:=by
 obtain⟨h1,h2,h3,h4,h5⟩:=h;refine⟨⟨by omega,fun s hs=> ?_⟩,⟨by omega,fun x hx=> ?_⟩,by omega⟩
 ·have:=h2 s hs;unfold SeqB;omega
 ·have:=h4 x hx;unfold LutB;omega
theorem lb_empty:LB (0,([],([],[]))):=⟨by simp,fun s hs=>(by cases hs),by simp,fun s hs=>(by cases hs),by simp⟩
theorem toLuts_tot {n:SNet}(h:NB n){cuts:List (List Int)}(hl:∀c∈cuts,c.length<=1000):Tot (spec_ToLuts (n,cuts)) (fun r=>LB r.1):=by
 unfold spec_ToLuts;dsimp only;refine Tot.bind (mapOk_tot h hl) fun b hb=> ?_
 refine Tot.nite (fun _=>Tot.ret lb_empty) (fun hbt=> ?_);obtain⟨hn,hlen,hcut⟩:=hb hbt;have hc:=caps_bd hn.caps;have han:=hn.an;have hsq:=hn.sq;have hot:=hn.ot;have cutAt:∀{i:Int} {c:List Int},0<=i->i<(cuts.length:Int)->c=cuts.getD i.toNat []->c.length<=4/\∀x∈c,0<=x/\x<firstOf n+i:=fun {i c} i0 i1 e=>by
  have:=hcut i.toNat (by omega);rw[<-e]at this;have e2:(i.toNat:Int)=i:=by omega
  rw[e2]at this;exact this
 refine Tot.bindEq (nodeCount_nok hn) ?_
 refine Tot.bindEq (first_nok hn) ?_
 refine Tot.make (by omega) (by omega) (by omega) ?_
 refine Tot.make (by omega) (by omega) (by omega) ?_
 refine Tot.bindEq (roots_ok h) ?_
 have hrl:(rootsOf n).length<=1001000:=roots_len h _;have hri:∀x∈rootsOf n,Lit x (nodesOf n):=fun x hx=>by
  rcases roots_mem.1 hx with q | ⟨s,hs,q⟩
  ·exact hn.outs x q
  ·exact(hn.ins s hs).2 x q
 refine Tot.lp (fun s=>(0<=s.1/\s.1<=((rootsOf n).length:Int))/\(s.2.1.length:Int)=nodesOf n/\(s.2.2.length:Int)=nodesOf n) (fun s=>(((rootsOf n).length:Int) - s.1).toNat) ⟨⟨by simp only;omega,by simp only;omega⟩,by simp only[List.length_replicate];omega,by simp only[List.length_replicate];omega⟩ (fun s hs=> ?_);obtain⟨i,pos,neg⟩:=s;obtain⟨⟨i0,i1⟩,hp,hg⟩:=hs;simp only at i0 i1 hp hg;dsimp only;refine Tot.dite (fun h1=> ?_) (fun h1=> ?_)
 ·rw[wrap_ok (z:=i+1) (by omega)];refine Tot.gin i0 h1 (Tot.get i0 h1 fun x hx hm=> ?_);have hxl:=hri x hm;unfold Lit at hxl;refine Tot.rem (by omega) (by omega) ?_
  refine Tot.dite (fun _=> ?_) (fun _=> ?_)
  ·refine Tot.gin i0 h1 (Tot.get i0 h1 fun y hy _=> ?_);have e:y=x:=by rw[hx,hy]
   subst e;refine Tot.div2 (by omega) (by omega) ?_
   refine Tot.gin (by omega) (by omega) (Tot.get (by omega) (by omega) fun _ _ _=> ?_);exact Tot.next ⟨⟨⟨by simp only;omega,by simp only;omega⟩,by simp only[gset_len];exact hp,hg⟩,by simp only;omega⟩
  ·refine Tot.gin i0 h1 (Tot.get i0 h1 fun y hy _=> ?_);have e:y=x:=by rw[hx,hy]
   subst e;refine Tot.div2 (by omega) (by omega) ?_
   refine Tot.gin (by omega) (by omega) (Tot.get (by omega) (by omega) fun _ _ _=> ?_);exact Tot.next ⟨⟨⟨by simp only;omega,by simp only;omega⟩,hp,by simp only[gset_len];exact hg⟩,by simp only;omega⟩
 refine Tot.exit ?_
 clear h1 i0 i1
 rw[wrap_ok (by omega)];refine Tot.lp (fun s=>(-1<=s.1/\s.1<(cuts.length:Int))/\(s.2.length:Int)=nodesOf n) (fun s=>(s.1+1).toNat) ⟨⟨by simp only;omega,by simp only;omega⟩,hp⟩ (fun s hs=> ?_);obtain⟨i,need⟩:=s;obtain⟨⟨i0,i1⟩,hnd⟩:=hs;simp only at i0 i1 hnd;dsimp only;refine Tot.dite (fun h1=> ?_) (fun h1=> ?_)
 ·refine Tot.join (A:=fun a:List Bool=>(a.length:Int)=nodesOf n) ?_ fun a ha=> ?_
  ·refine Tot.lp (fun s=>(0<=s.1/\s.1<=4)/\(s.2.length:Int)=nodesOf n) (fun s=>(4 - s.1).toNat) ⟨⟨by simp only;omega,by simp only;omega⟩,hnd⟩ (fun s hs=> ?_);obtain⟨k,nd⟩:=s;obtain⟨⟨k0,k1⟩,hk⟩:=hs;simp only at k0 k1 hk;dsimp only;refine Tot.get h1 i1 fun c hcd hm=> ?_
   obtain⟨hc4,hcx⟩:=cutAt h1 i1 hcd;refine Tot.dite (fun h2=> ?_) (fun h2=>Tot.exit (Tot.next hk));rw[wrap_ok (z:=firstOf n+i) (by omega),wrap_ok (z:=k+1) (by omega)];refine Tot.gin (by omega) (by omega) (Tot.get (by omega) (by omega) fun _ _ _=> ?_);have inner:Tot (((gget [] cuts i).bind fun v25=>(gget 0 v25 k).bind fun v26=>(gin nd.length v26).bind fun _=>(gget false nd v26).bind fun v28=>some (Sum.inl (k+1,gset nd v26 true):(Int×List Bool)⊕(List Bool⊕((Int×List Bool)⊕(Net×Bool))))))
    (SumP (fun s' =>((0<=s'.1/\s'.1<=4)/\(s'.2.length:Int)=nodesOf n)/\(4 - s'.1).toNat<(4 - k).toNat) (SumP (fun a:List Bool=>(a.length:Int)=nodesOf n) (SumP (fun s' =>((-1<=s'.1/\s'.1<(cuts.length:Int))/\(s'.2.length:Int)=nodesOf n)/\(s'.1+1).toNat<(i+1).toNat) (fun r=>LB r.1)))):=by
    refine Tot.get h1 i1 fun c2 hc2 _=> ?_
    have e:c2=c:=by rw[hcd,hc2]
    subst e;refine Tot.get k0 h2 fun x _ hxm=> ?_
    have hx:=hcx x hxm;refine Tot.gin (by omega) (by omega) (Tot.get (by omega) (by omega) fun _ _ _=> ?_);exact Tot.next ⟨⟨⟨by simp only;omega,by simp only;omega⟩,by simp only[gset_len];exact hk⟩,by simp only;omega⟩
   refine Tot.ite (fun _=>inner) (fun _=> ?_);refine Tot.gin (by omega) (by omega) (Tot.get (by omega) (by omega) fun _ _ _=> ?_);refine Tot.ite (fun _=>inner) (fun _=>Tot.exit (Tot.next hk))
  ·rw[wrap_ok (z:=i - 1) (by omega)];exact Tot.next ⟨⟨⟨by simp only;omega,by simp only;omega⟩,ha⟩,by simp only;omega⟩
 refine Tot.exit ?_
 clear h1 i0 i1
 refine Tot.make (by omega) (by omega) (by omega) ?_
 refine Tot.lp (fun s=>(0<=s.1/\s.1<=firstOf n)/\(s.2.length:Int)=s.1) (fun s=>(firstOf n - s.1).toNat) ⟨⟨by simp only;omega,by simp only;omega⟩,by simp⟩ (fun s hs=> ?_);obtain⟨i,to⟩:=s;obtain⟨⟨i0,i1⟩,hto⟩:=hs;simp only at i0 i1 hto;dsimp only;refine Tot.dite (fun h1=> ?_) (fun h1=> ?_)
 ·refine Tot.app (by simp only[List.length_singleton];omega) (by omega) ?_
  rw[wrap_ok (z:=i+1) (by omega)];exact Tot.next ⟨⟨⟨by simp only;omega,by simp only;omega⟩,by simp only[List.length_append,List.length_singleton];omega⟩,by simp only;omega⟩
 refine Tot.exit ?_
 have hto:(to.length:Int)=firstOf n:=by omega
 clear h1 i0 i1
 refine Tot.lp (fun s=>(0<=s.1/\s.1<=(cuts.length:Int))/\(s.2.2.length:Int)=firstOf n+s.1/\(s.2.1.length:Int)<=s.1/\∀x∈s.2.1,List.length x.1<=4) (fun s=>((cuts.length:Int) - s.1).toNat) ⟨⟨by simp only;omega,by simp only;omega⟩,by simp only;omega,by simp,fun x hx=>(by cases hx)⟩ (fun s hs=> ?_);obtain⟨i,luts,to2⟩:=s;obtain⟨⟨i0,i1⟩,ht2,hll,hlx⟩:=hs;simp only at i0 i1 ht2 hll hlx;dsimp only;refine Tot.dite (fun h1=> ?_) (fun h1=> ?_)
 ·refine Tot.app (by simp only[List.length_singleton];omega) (by omega) ?_
  rw[wrap_ok (z:=firstOf n+i) (by omega),wrap_ok (z:=i+1) (by omega)];refine Tot.gin (by omega) (by omega) (Tot.get (by omega) (by omega) fun _ _ _=> ?_);refine Tot.ite (fun _=> ?_) (fun _=> ?_)
  ·refine Tot.get i0 h1 fun c hcd hm=> ?_
   obtain⟨hc4,hcx⟩:=cutAt i0 h1 hcd;refine Tot.bind (cutTable_tot h (by omega)) fun t _=> ?_
   refine Tot.get i0 h1 fun c2 hc2 _=> ?_
   have e:c2=c:=by rw[hcd,hc2]
   subst e;refine Tot.bind (nodes20_tot (by omega) (fun x hx=> ?_)) fun r hr=> ?_
   ·have:=hcx x hx;rw[List.length_append,List.length_singleton];omega
   refine Tot.app (by simp only[List.length_singleton];omega) (by omega) ?_
   refine Tot.next ⟨⟨⟨by simp only;omega,by simp only;omega⟩,by simp only[List.length_append,List.length_singleton];omega,by simp only[List.length_append,List.length_singleton];omega,fun x hx=> ?_⟩,by simp only;omega⟩;rcases List.mem_append.1 hx with hx | hx
   ·exact hlx x hx
   ·rw[List.mem_singleton.1 hx];simp only;omega
  ·exact Tot.next ⟨⟨⟨by simp only;omega,by simp only;omega⟩,by simp only[List.length_append,List.length_singleton];omega,by simp only;omega,hlx⟩,by simp only;omega⟩
 refine Tot.exit ?_
 have ht2:(to2.length:Int)=nodesOf n:=by omega
 have hll:luts.length<=300:=by omega
 clear h1 i0 i1
 refine Tot.lp (fun s=>(0<=s.1/\s.1<=nodesOf n)/\(s.2.1.length:Int)=nodesOf n/\(s.2.2.length:Int)<=300+s.1/\∀x∈s.2.2,List.length x.1<=4) (fun s=>(nodesOf n - s.1).toNat) ⟨⟨by simp only;omega,by simp only;omega⟩,by simp only[List.length_replicate];omega,by simp only;omega,hlx⟩ (fun s hs=> ?_);obtain⟨k,ng,ls⟩:=s;obtain⟨⟨k0,k1⟩,hng,hls,hlsx⟩:=hs;simp only at k0 k1 hng hls hlsx;dsimp only;refine Tot.dite (fun h1=> ?_) (fun h1=> ?_)
 ·rw[wrap_ok (z:=k+1) (by omega)];refine Tot.gin (by omega) (by omega) (Tot.get (by omega) (by omega) fun _ _ _=> ?_);refine Tot.nite (fun _=> ?_) (fun _=> ?_)
  ·exact Tot.next ⟨⟨⟨by simp only;omega,by simp only;omega⟩,hng,by simp only;omega,hlsx⟩,by simp only;omega⟩
  refine Tot.gin (by omega) (by omega) (Tot.get (by omega) (by omega) fun _ _ _=> ?_);refine Tot.dite (fun hkf=> ?_) (fun _=> ?_)
  ·rw[wrap_ok (z:=k - firstOf n) (by omega)];refine Tot.get (by omega) (by omega) fun c hcd hm=> ?_
   obtain⟨hc4,hcx⟩:=cutAt (show 0<=k - firstOf n by omega) (by omega) hcd;refine Tot.bind (cutTable_tot h (by omega)) fun t _=> ?_
   refine Tot.bind (tableNot_tot t) fun t2 _=> ?_
   refine Tot.get (by omega) (by omega) fun c2 hc2 _=> ?_
   have e:c2=c:=by rw[hcd,hc2]
   subst e;refine Tot.bind (nodes20_tot (by omega) (fun x hx=> ?_)) fun r hr=> ?_
   ·have:=hcx x hx;omega
   refine Tot.app (by simp only[List.length_singleton];omega) (by omega) ?_
   refine Tot.next ⟨⟨⟨by simp only;omega,by simp only;omega⟩,by simp only[gset_len];exact hng,by simp only[List.length_append,List.length_singleton];omega,fun x hx=> ?_⟩,by simp only;omega⟩;rcases List.mem_append.1 hx with hx | hx
   ·exact hlsx x hx
   ·rw[List.mem_singleton.1 hx];simp only;omega
  ·refine Tot.dite (fun _=> ?_) (fun _=> ?_)
   ·refine Tot.app (by simp only[List.length_singleton];omega) (by omega) ?_
    refine Tot.next ⟨⟨⟨by simp only;omega,by simp only;omega⟩,by simp only[gset_len];exact hng,by simp only[List.length_append,List.length_singleton];omega,fun x hx=> ?_⟩,by simp only;omega⟩;rcases List.mem_append.1 hx with hx | hx
    ·exact hlsx x hx
    ·rw[List.mem_singleton.1 hx];simp
   ·refine Tot.app (by simp only[List.length_singleton];omega) (by omega) ?_
    refine Tot.next ⟨⟨⟨by simp only;omega,by simp only;omega⟩,by simp only[gset_len];exact hng,by simp only[List.length_append,List.length_singleton];omega,fun x hx=> ?_⟩,by simp only;omega⟩;rcases List.mem_append.1 hx with hx | hx
    ·exact hlsx x hx
    ·rw[List.mem_singleton.1 hx];simp
 refine Tot.exit ?_
 have hls:ls.length<=700:=by omega
 clear h1 k0 k1
 refine Tot.lp (fun s=>(0<=s.1/\s.1<=(n.2.1.length:Int))/\(s.2.length:Int)<=s.1/\∀x∈s.2,List.length x.2.2<=4) (fun s=>((n.2.1.length:Int) - s.1).toNat) ⟨⟨by simp only;omega,by simp only;omega⟩,by simp,fun x hx=>(by cases hx)⟩ (fun s hs=> ?_);obtain⟨i,sq⟩:=s;obtain⟨⟨i0,i1⟩,hl2,hx2⟩:=hs;simp only at i0 i1 hl2 hx2;dsimp only;refine Tot.dite (fun h1=> ?_) (fun h1=> ?_)
 ·refine Tot.get i0 h1 fun a _ _=> ?_
  refine Tot.get i0 h1 fun b2 _ _=> ?_
  refine Tot.get i0 h1 fun y _ hym=> ?_
  have hyi:=hn.ins y hym;refine Tot.bind (roots20_tot (by omega) ht2 hng hyi.2 (by omega)) fun r hr=> ?_
  refine Tot.app (by simp only[List.length_singleton];omega) (by omega) ?_
  rw[wrap_ok (z:=i+1) (by omega)];refine Tot.next ⟨⟨⟨by simp only;omega,by simp only;omega⟩,by simp only[List.length_append,List.length_singleton];omega,fun x hx=> ?_⟩,by simp only;omega⟩;rcases List.mem_append.1 hx with hx | hx
  ·exact hx2 x hx
  ·rw[List.mem_singleton.1 hx];simp only;omega
 refine Tot.exit ?_
 refine Tot.bind (roots20_tot (by omega) ht2 hng hn.outs (by omega)) fun r hr=> ?_
 exact Tot.ret ⟨by simp only;omega,fun s hs=>by have:=hx2 s hs;omega,by simp only;omega,fun x hx=>by have:=hlsx x hx;omega,by simp only;omega⟩
end Go.Pf
/-
  Own work. Draws, plainly: least cuts by flow, labels, depth-optimal mappings.
-/
namespace Go.Pf
open Go Go.Pu
set_option linter.unusedVariables false
theorem fan_tot {n:SNet}(h:NOk n){k:Int}(k0:0<=k)(k1:k<nodesOf n):Tot (spec_l17Fan (n,k)) (fun r=>r.length<=2/\∀x∈r,0<=x/\x<nodesOf n):=by
 unfold spec_l17Fan;dsimp only;have hc:=caps_bd h.caps;refine Tot.bindEq (first_nok h) ?_
 refine Tot.dite (fun _=>Tot.ret ⟨by simp,fun x hx=>(by cases hx)⟩) (fun hf=> ?_);refine Tot.bindEq (first_nok h) ?_
 rw[wrap_ok (z:=k - firstOf n) (by omega)];refine Tot.get (by omega) (by omega) fun a ha _=> ?_
 have hl:=and_at h (show 0<=k - firstOf n by omega) (by omega);rw[<-ha]at hl;unfold Lit at hl;refine Tot.dite (fun _=> ?_) (fun _=> ?_)
 ·refine Tot.div2 (by omega) (by omega) ?_
  refine Tot.app (by simp) (by omega) ?_
  refine Tot.dite (fun _=> ?_) (fun _=> ?_)
  ·refine Tot.div2 (by omega) (by omega) ?_
   refine Tot.app (by simp) (by omega) ?_
   refine Tot.ret ⟨by simp,fun x hx=> ?_⟩;simp only[List.nil_append,List.cons_append,List.mem_cons,List.not_mem_nil,or_false]at hx;rcases hx with rfl | rfl<;>omega
  ·refine Tot.ret ⟨by simp,fun x hx=> ?_⟩;simp only[List.nil_append,List.mem_cons,List.not_mem_nil,or_false]at hx;subst hx;omega
 ·refine Tot.dite (fun _=> ?_) (fun _=>Tot.ret ⟨by simp,fun x hx=>(by cases hx)⟩);refine Tot.div2 (by omega) (by omega) ?_
  refine Tot.app (by simp) (by omega) ?_
  refine Tot.ret ⟨by simp,fun x hx=> ?_⟩;simp only[List.nil_append,List.mem_cons,List.not_mem_nil,or_false]at hx;subst hx;omega
structure SI (M:Nat)(b q:List Int):Prop where
 len:b.length=M
 mem:∀x∈q,(0<=x/\x<(M:Int))/\b.getD x.toNat 0≠-2
 chain:∀j,j<q.length->b.getD (q.getD j 0).toNat 0= -1\/∃i,i<j/\b.getD (q.getD j 0).toNat 0=q.getD i 0
 cnt:q.length+b.count (-2)=M
theorem count_set:∀(b:List Int) (i:Nat) (v:Int),i<b.length->b.getD i 0= -2->v≠-2->(b.set i v).count (-2)+1=b.count (-2)
 | [],i,v,h,_,_=>by simp at h
 | x::b,0,v,_,h,hv=>by
  simp at h;subst h;simp[hv]
 | x::b,i+1,v,h,h2,hv=>by
  have ih:=count_set b i v (by simpa using h) (by simpa using h2) hv;simp only[List.set_cons_succ,List.count_cons];omega
theorem getD_app_l {xs ys:List Int}{i:Nat}(h:i<xs.length):(xs++ys).getD i 0=xs.getD i 0:=by
 simp[List.getD,List.getElem?_append_left h]
theorem SI.qlen {M:Nat}{b q:List Int}(h:SI M b q):q.length<=M:=by have:=h.cnt;omega
theorem SI.push {M:Nat}{b q:List Int}(h:SI M b q){x v:Int}(x0:0<=x/\x<(M:Int))(hx:b.getD x.toNat 0= -2)(hv:v= -1\/v∈q):SI M (gset b x v) (q++[x]):=by
 have hv2:v≠-2:=by
  rcases hv with rfl | hv
  ·omega
  ·have:=(h.mem v hv).1;omega
 have hxl:x.toNat<b.length:=by rw[h.len];omega
 have hne:∀y∈q,y.toNat≠x.toNat:=fun y hy e=>by
  have:=(h.mem y hy).2;rw[e,hx]at this;exact this rfl
 have g1:∀y∈q,(gset b x v).getD y.toNat 0=b.getD y.toNat 0:=fun y hy=>by
  unfold gset;rw[List.getD,List.getElem?_set_ne (Ne.symm (hne y hy))];rfl
 have g2:(gset b x v).getD x.toNat 0=v:=by
  unfold gset;rw[List.getD,List.getElem?_set_self hxl];rfl
 refine⟨by rw[gset_len];exact h.len,fun y hy=> ?_,fun j hj=> ?_,?_⟩
 ·rcases List.mem_append.1 hy with hy | hy
  ·rw[g1 y hy];exact h.mem y hy
  ·rw[List.mem_singleton.1 hy,g2];exact⟨x0,hv2⟩
 ·rw[List.length_append,List.length_singleton]at hj;by_cases c:j<q.length
  ·rw[getD_app_l c,g1 _ (getD_mem c)];rcases h.chain j c with e | ⟨i,hi,e⟩
   ·exact .inl e
   ·exact .inr ⟨i,hi,by rw[e,getD_app_l (by omega)]⟩
  ·have e:j=q.length:=by omega
   subst e;have e2:(q++[x]).getD q.length 0=x:=by simp[List.getD]
   rw[e2,g2];rcases hv with rfl | hv
   ·exact .inl rfl
   ·obtain⟨i,hi,rfl⟩:=List.getElem_of_mem hv;exact .inr ⟨i,hi,by rw[getD_app_l hi,List.getD,List.getElem?_eq_getElem hi];rfl⟩
 ·have:=count_set b x.toNat v hxl hx hv2;have h2:=h.cnt;unfold gset;rw[List.length_append,List.length_singleton];omega
theorem SI.start (M:Nat):SI M (List.replicate M (-2)) []:=⟨by simp,fun x hx=>(by cases hx),fun j hj=>by simp at hj,by simp⟩
theorem SI.back {M:Nat}{b q:List Int}(h:SI M b q){x:Int}(hx:x∈q):b.getD x.toNat 0= -1\/(b.getD x.toNat 0∈q/\q.idxOf (b.getD x.toNat 0)<q.idxOf x):=by
 have hj:q.idxOf x<q.length:=List.idxOf_lt_length_of_mem hx;have e:q.getD (q.idxOf x) 0=x:=by
  rw[List.getD,List.getElem?_eq_getElem hj,List.getElem_idxOf];rfl
 have hc:=h.chain _ hj;rw[e]at hc;rcases hc with hc | ⟨i,hi,hc⟩
 ·exact .inl hc
 ·right
  have hil:i<q.length:=by omega
  have hm:q.getD i 0∈q:=getD_mem hil;rw[hc];refine⟨hm,Nat.lt_of_le_of_lt ?_ hi⟩;have e2:q.getD i 0=q[i]:=by rw[List.getD,List.getElem?_eq_getElem hil];rfl
  rw[e2];by_cases c:q.idxOf q[i]<=i
  ·exact c
  ·exfalso
   have:=List.not_of_lt_findIdx (xs:=q) (p:=fun y=>y==q[i]) (i:=i) (by unfold List.idxOf at c;omega);simp at this
def AbOk (n:SNet)(ab:List Int):Prop:=(ab.length:Int)=nodesOf n/\∀y∈ab,-1<=y/\y<nodesOf n
theorem search_tot {n:SNet}(h:NOk n){up us:List Bool}{ab:List Int}(hu:(up.length:Int)=nodesOf n)(hs:(us.length:Int)=nodesOf n)(ha:AbOk n ab):Tot (spec_l17Search (n,(up,(us,ab)))) (fun r=>∃q,SI (2*nodesOf n).toNat r.1 q/\(r.2= -1\/r.2∈q)):=by
 unfold spec_l17Search;dsimp only;have hc:=caps_bd h.caps;obtain⟨M,hM⟩:∃M:Nat,2*nodesOf n=(M:Int):=⟨(2*nodesOf n).toNat,by omega⟩;have hM2:(2*nodesOf n).toNat=M:=by omega
 rw[hM2];refine Tot.lp (fun s=>(0<=s.1/\s.1<=(M:Int))/\s.2=List.replicate s.1.toNat (-2)) (fun s=>((M:Int) - s.1).toNat) ⟨⟨by simp only;omega,by simp only;omega⟩,by simp⟩ (fun s hs0=> ?_);obtain⟨i,b⟩:=s;obtain⟨⟨i0,i1⟩,hb⟩:=hs0;simp only at i0 i1 hb;refine Tot.bindEq (nodeCount_nok h) ?_
 dsimp only;rw[wrap_ok (z:=2*nodesOf n) (by omega)];refine Tot.dite (fun h1=> ?_) (fun h1=> ?_)
 ·subst hb;refine Tot.app (by simp only[List.length_singleton,List.length_replicate];omega) (by omega) ?_
  rw[wrap_ok (z:=i+1) (by omega)];refine Tot.next ⟨⟨⟨by simp only;omega,by simp only;omega⟩,?_⟩,by simp only;omega⟩;simp only;rw[show(i+1).toNat=i.toNat+1 by omega,List.replicate_succ']
 refine Tot.exit ?_
 have hiM:i.toNat=M:=by omega
 rw[hiM]at hb
 clear h1 i0 i1
 refine Tot.lp (fun s=>(0<=s.1/\s.1<=nodesOf n)/\SI M s.2.1 s.2.2) (fun s=>(nodesOf n - s.1).toNat) ⟨⟨by simp only;omega,by simp only;omega⟩,by simp only;rw[hb];exact SI.start M⟩ (fun s hs0=> ?_);obtain⟨k,b1,q1⟩:=s;obtain⟨⟨k0,k1⟩,hsi⟩:=hs0;simp only at k0 k1 hsi;refine Tot.bindEq (nodeCount_nok h) ?_
 dsimp only;refine Tot.dite (fun h1=> ?_) (fun h1=> ?_)
 ·refine Tot.bind (fan_tot h k0 h1) fun fan hfan=> ?_
  refine Tot.join (A:=fun a:List Int×List Int=>SI M a.1 a.2) ?_ fun a ha2=> ?_
  ·refine Tot.lp (fun s=>(0<=s.1/\s.1<=(fan.length:Int))/\SI M s.2.1 s.2.2) (fun s=>((fan.length:Int) - s.1).toNat) ⟨⟨by simp only;omega,by simp only;omega⟩,hsi⟩ (fun s hs0=> ?_);obtain⟨j,b2,q2⟩:=s;obtain⟨⟨j0,j1⟩,hsi2⟩:=hs0;simp only at j0 j1 hsi2;dsimp only;have hql:=hsi2.qlen;have hbl:=hsi2.len;have ex:∀{β:Type} {A:β->Prop} {Q:((Int×(List Int×List Int))⊕(List Int×Int))->Prop},Tot (Option.map (Sum.inr:((List Int×List Int)⊕((Int×(List Int×List Int))⊕(List Int×Int)))->β⊕_) (some (.inl (b2,q2)))) (SumP A (SumP (fun a:List Int×List Int=>SI M a.1 a.2) Q)):=Tot.exit (Tot.next hsi2);refine Tot.dite (fun h2=> ?_) (fun h2=>ex);rw[wrap_ok (z:=j+1) (by omega)];refine Tot.get k0 (by omega) fun _ _ _=> ?_
   refine Tot.ite (fun _=> ?_) (fun _=>ex);refine Tot.gin j0 h2 (Tot.get j0 h2 fun x hx hxm=> ?_);have hxr:=hfan.2 x hxm;refine Tot.get hxr.1 (by omega) fun _ _ _=> ?_
   refine Tot.nite (fun _=> ?_) (fun _=> ?_)
   ·refine Tot.gin j0 h2 (Tot.get j0 h2 fun x2 hx2 _=> ?_);have e:x2=x:=by rw[hx,hx2]
    subst e;rw[wrap_ok (z:=2*x2) (by omega)];refine Tot.gin (by omega) (by omega) (Tot.get (by omega) (by omega) fun y hy _=> ?_);refine Tot.dite (fun hy2=> ?_) (fun _=> ?_)
    ·refine Tot.gin j0 h2 (Tot.get j0 h2 fun x3 hx3 _=> ?_);have e:x3=x2:=by rw[hx,hx3]
     subst e;rw[wrap_ok (z:=2*x3) (by omega)];refine Tot.gin (by omega) (by omega) (Tot.get (by omega) (by omega) fun _ _ _=> ?_);refine Tot.gin j0 h2 (Tot.get j0 h2 fun x4 hx4 _=> ?_);have e:x4=x3:=by rw[hx,hx4]
     subst e;rw[wrap_ok (z:=2*x4) (by omega)];refine Tot.app (by simp only[List.length_singleton];omega) (by omega) ?_
     exact Tot.next ⟨⟨⟨by simp only;omega,by simp only;omega⟩,hsi2.push (by omega) (by rw[<-hy];exact hy2) (.inl rfl)⟩,by simp only;omega⟩
    ·exact Tot.next ⟨⟨⟨by simp only;omega,by simp only;omega⟩,hsi2⟩,by simp only;omega⟩
   ·exact Tot.next ⟨⟨⟨by simp only;omega,by simp only;omega⟩,hsi2⟩,by simp only;omega⟩
  ·rw[wrap_ok (z:=k+1) (by omega)];exact Tot.next ⟨⟨⟨by simp only;omega,by simp only;omega⟩,ha2⟩,by simp only;omega⟩
 refine Tot.exit ?_
 clear h1 k0 k1
 refine Tot.lp (fun s=>(0<=s.1/\s.1<=(s.2.2.length:Int))/\SI M s.2.1 s.2.2) (fun s=>((M:Int) - s.1).toNat) ⟨⟨by simp only;omega,by simp only;omega⟩,hsi⟩ (fun s hs0=> ?_);obtain⟨c,b2,q2⟩:=s;obtain⟨⟨c0,c1⟩,hsi2⟩:=hs0;simp only at c0 c1 hsi2;have hql:=hsi2.qlen;have hbl:=hsi2.len;dsimp only;refine Tot.dite (fun h1=> ?_) (fun h1=>Tot.exit (Tot.ret ⟨q2,hsi2,.inl rfl⟩));refine Tot.gin c0 h1 (Tot.get c0 h1 fun x hx hxm=> ?_);have hxr:=(hsi2.mem x hxm).1;refine Tot.div2 (by omega) (by omega) ?_
 have hk:0<=x/2/\x/2<nodesOf n:=by omega
 refine Tot.join (A:=fun nx:List Int=>nx.length<=3/\∀y∈nx,0<=y/\y<(M:Int)) ?_ fun nx hnx=> ?_
 ·refine Tot.gin c0 h1 (Tot.get c0 h1 fun x2 hx2 _=> ?_);have e:x2=x:=by rw[hx,hx2]
  subst e;refine Tot.rem (by omega) (by omega) ?_
  refine Tot.dite (fun _=> ?_) (fun _=> ?_)
  ·refine Tot.get hk.1 (by omega) fun _ _ _=> ?_
   refine Tot.nite (fun _=> ?_) (fun _=> ?_)
   ·rw[wrap_ok (z:=2*(x2/2)) (by omega),wrap_ok (z:=2*(x2/2)+1) (by omega)];refine Tot.app (by simp) (by omega) ?_
    refine Tot.next ⟨by simp,fun y hy=> ?_⟩;simp only[List.nil_append,List.mem_singleton]at hy;subst hy;omega
   ·refine Tot.get hk.1 (by rw[ha.1];omega) fun w hw _=> ?_
    refine Tot.dite (fun hw0=> ?_) (fun _=>Tot.next ⟨by simp,fun y hy=>(by cases hy)⟩);refine Tot.get hk.1 (by rw[ha.1];omega) fun w2 hw2 hwm=> ?_
    have e:w2=w:=by rw[hw,hw2]
    subst e;have hwr:=ha.2 w2 hwm;rw[wrap_ok (z:=2*w2) (by omega),wrap_ok (z:=2*w2+1) (by omega)];refine Tot.app (by simp) (by omega) ?_
    refine Tot.next ⟨by simp,fun y hy=> ?_⟩;simp only[List.nil_append,List.mem_singleton]at hy;subst hy;omega
  ·refine Tot.bindEq (first_nok h) ?_
   refine Tot.dite (fun _=> ?_) (fun _=> ?_)
   ·refine Tot.gin c0 h1 (Tot.get c0 h1 fun x3 hx3 hx3m=> ?_);exact Tot.exit (Tot.exit (Tot.ret ⟨q2,hsi2,.inr hx3m⟩))
   ·refine Tot.bind (fan_tot h hk.1 hk.2) fun fan hfan=> ?_
    refine Tot.lp (fun s=>(0<=s.1/\s.1<=(fan.length:Int))/\(s.2.length:Int)=s.1/\∀y∈s.2,0<=y/\y<(M:Int)) (fun s=>((fan.length:Int) - s.1).toNat) ⟨⟨by simp only;omega,by simp only;omega⟩,by simp,fun y hy=>(by cases hy)⟩ (fun s hs0=> ?_);obtain⟨j,nx⟩:=s;obtain⟨⟨j0,j1⟩,hnl,hny⟩:=hs0;simp only at j0 j1 hnl hny;have hf2:=hfan.1;dsimp only;refine Tot.dite (fun h2=> ?_) (fun h2=> ?_)
    ·refine Tot.gin j0 h2 (Tot.get j0 h2 fun y hy hym=> ?_);have hyr:=hfan.2 y hym;rw[wrap_ok (z:=2*y) (by omega),wrap_ok (z:=j+1) (by omega)];refine Tot.app (by simp only[List.length_singleton];omega) (by omega) ?_
     refine Tot.next ⟨⟨⟨by simp only;omega,by simp only;omega⟩,by simp only[List.length_append,List.length_singleton];omega,fun z hz=> ?_⟩,by simp only;omega⟩;rcases List.mem_append.1 hz with hz | hz
     ·exact hny z hz
     ·rw[List.mem_singleton.1 hz];omega
    ·refine Tot.exit ?_
     refine Tot.get hk.1 (by omega) fun _ _ _=> ?_
     refine Tot.ite (fun _=> ?_) (fun _=> ?_)
     ·rw[wrap_ok (z:=2*(x2/2)) (by omega)];refine Tot.app (by simp only[List.length_singleton];omega) (by omega) ?_
      refine Tot.next ⟨by simp only[List.length_append,List.length_singleton];omega,fun z hz=> ?_⟩;rcases List.mem_append.1 hz with hz | hz
      ·exact hny z hz
      ·rw[List.mem_singleton.1 hz];omega
     ·exact Tot.next ⟨by omega,hny⟩
 ·refine Tot.lp (fun s=>(0<=s.1/\s.1<=(nx.length:Int))/\SI M s.2.1 s.2.2/\c<(s.2.2.length:Int)) (fun s=>((nx.length:Int) - s.1).toNat) ⟨⟨by simp only;omega,by simp only;omega⟩,hsi2,h1⟩ (fun s hs0=> ?_);obtain⟨j,b3,q3⟩:=s;obtain⟨⟨j0,j1⟩,hsi3,hcq⟩:=hs0;simp only at j0 j1 hsi3 hcq;have hql3:=hsi3.qlen;have hbl3:=hsi3.len;have hn3:=hnx.1;dsimp only;refine Tot.dite (fun h2=> ?_) (fun h2=> ?_)
  ·rw[wrap_ok (z:=j+1) (by omega)];refine Tot.gin j0 h2 (Tot.get j0 h2 fun y hy hym=> ?_);have hyr:=hnx.2 y hym;refine Tot.gin hyr.1 (by omega) (Tot.get hyr.1 (by omega) fun w hw _=> ?_);refine Tot.dite (fun hw2=> ?_) (fun _=> ?_)
   ·refine Tot.gin j0 h2 (Tot.get j0 h2 fun y2 hy2 _=> ?_);have e:y2=y:=by rw[hy,hy2]
    subst e;refine Tot.gin c0 hcq (Tot.get c0 hcq fun z _ hzm=> ?_);refine Tot.gin hyr.1 (by omega) (Tot.get hyr.1 (by omega) fun _ _ _=> ?_);refine Tot.gin j0 h2 (Tot.get j0 h2 fun y3 hy3 _=> ?_);have e:y3=y2:=by rw[hy,hy3]
    subst e;refine Tot.app (by simp only[List.length_singleton];omega) (by omega) ?_
    exact Tot.next ⟨⟨⟨by simp only;omega,by simp only;omega⟩,hsi3.push hyr (by rw[<-hw];exact hw2) (.inr hzm),by simp only[List.length_append,List.length_singleton];omega⟩,by simp only;omega⟩
   ·exact Tot.next ⟨⟨⟨by simp only;omega,by simp only;omega⟩,hsi3,hcq⟩,by simp only;omega⟩
  ·refine Tot.exit ?_
   rw[wrap_ok (z:=c+1) (by omega)];exact Tot.next ⟨⟨⟨by simp only;omega,by simp only;omega⟩,hsi3⟩,by simp only;omega⟩
end Go.Pf
/-
  Own work. Draws, plainly: least cuts, labels, depth-optimal mappings.
-/
namespace Go.Pf
open Go Go.Pu
set_option linter.unusedVariables false
theorem cut17_tot {n:SNet}(h:NOk n){labels:List Int}(hlab:(labels.length:Int)=nodesOf n){v ht:Int}(v0:0<=v)(v1:v<nodesOf n):Tot (spec_l17Cut (n,(labels,(v,ht)))) (fun r=>r.1.length<=1000):=by
 unfold spec_l17Cut;dsimp only;have hc:=caps_bd h.caps;refine Tot.bind (cone_tot h.nb) fun cone hcone=> ?_
 refine Tot.bindEq (nodeCount_nok h) ?_
 refine Tot.make (by omega) (by omega) (by omega) ?_
 refine Tot.lp (fun s=>(0<=s.1/\s.1<=(cone.length:Int))/\(s.2.length:Int)=nodesOf n) (fun s=>((cone.length:Int) - s.1).toNat) ⟨⟨by simp only;omega,by simp only;omega⟩,by simp only[List.length_replicate];omega⟩ (fun s hs=> ?_);obtain⟨i,up⟩:=s;obtain⟨⟨i0,i1⟩,hup⟩:=hs;simp only at i0 i1 hup;have hcl:=hcone.1;dsimp only;refine Tot.dite (fun h1=> ?_) (fun h1=> ?_)
 ·rw[wrap_ok (z:=i+1) (by omega)];refine Tot.gin i0 h1 (Tot.get i0 h1 fun x hx hxm=> ?_);have hxr:=hcone.2 x hxm;refine Tot.gin i0 h1 (Tot.get i0 h1 fun x2 _ _=> ?_);refine Tot.dite (fun _=> ?_) (fun _=> ?_)
  ·refine Tot.gin (by omega) (by omega) (Tot.get (by omega) (by omega) fun _ _ _=> ?_);exact Tot.next ⟨⟨⟨by simp only;omega,by simp only;omega⟩,by simp only[gset_len];exact hup⟩,by simp only;omega⟩
  ·refine Tot.gin i0 h1 (Tot.get i0 h1 fun x3 hx3 _=> ?_);have e:x3=x:=by rw[hx,hx3]
   subst e;refine Tot.get (by omega) (by omega) fun _ _ _=> ?_
   refine Tot.gin (by omega) (by omega) (Tot.get (by omega) (by omega) fun _ _ _=> ?_);exact Tot.next ⟨⟨⟨by simp only;omega,by simp only;omega⟩,by simp only[gset_len];exact hup⟩,by simp only;omega⟩
 refine Tot.exit ?_
 clear h1 i0 i1
 refine Tot.bindEq (nodeCount_nok h) ?_
 refine Tot.make (by omega) (by omega) (by omega) ?_
 refine Tot.bindEq (nodeCount_nok h) ?_
 refine Tot.make (by omega) (by omega) (by omega) ?_
 refine Tot.lp (fun i=>0<=i/\i<=firstOf n) (fun i=>(firstOf n - i).toNat) ⟨by omega,by omega⟩ (fun j hj=> ?_);obtain⟨j0,j1⟩:=hj;refine Tot.bindEq (first_nok h) ?_
 refine Tot.dite (fun h1=> ?_) (fun h1=> ?_)
 ·refine Tot.gin j0 (by omega) (Tot.get j0 (by omega) fun _ _ _=> ?_);refine Tot.ite (fun _=>Tot.exit (Tot.ret (by simp))) (fun _=> ?_);rw[wrap_ok (z:=j+1) (by omega)];exact Tot.next ⟨⟨by omega,by omega⟩,by omega⟩
 refine Tot.exit ?_
 clear h1 j0 j1
 refine Tot.lp (fun s=>(0<=s.1/\s.1<=5)/\(s.2.1.length:Int)=nodesOf n/\AbOk n s.2.2) (fun s=>(5 - s.1).toNat) ⟨⟨by simp only;omega,by simp only;omega⟩,by simp only[List.length_replicate];omega,by simp only[List.length_replicate];omega,fun y hy=>by rw[List.eq_of_mem_replicate hy];omega⟩ (fun s hs=> ?_);obtain⟨fl,us,ab⟩:=s;obtain⟨⟨f0,f1⟩,hus,hab⟩:=hs;simp only at f0 f1 hus hab;dsimp only;refine Tot.dite (fun h1=> ?_) (fun h1=>Tot.exit (Tot.ret (by simp)));refine Tot.bind (search_tot h hup hus hab) fun r hr=> ?_
 obtain⟨b,at0⟩:=r;obtain⟨q,hsi,hat⟩:=hr;simp only at hsi hat;obtain⟨M,hM⟩:∃M:Nat,2*nodesOf n=(M:Int):=⟨(2*nodesOf n).toNat,by omega⟩;have hM2:(2*nodesOf n).toNat=M:=by omega
 rw[hM2]at hsi;have hbl:=hsi.len;dsimp only;refine Tot.dite (fun h2=> ?_) (fun h2=> ?_)
 ·refine Tot.lp (fun s=>(0<=s.1/\s.1<=nodesOf n)/\(s.2.length:Int)<=s.1) (fun s=>(nodesOf n - s.1).toNat) ⟨⟨by simp only;omega,by simp only;omega⟩,by simp⟩ (fun s hs=> ?_);obtain⟨k,out⟩:=s;obtain⟨⟨k0,k1⟩,ho⟩:=hs;simp only at k0 k1 ho;refine Tot.bindEq (nodeCount_nok h) ?_
  dsimp only;refine Tot.dite (fun h3=> ?_) (fun h3=> ?_)
  ·rw[wrap_ok (z:=2*k) (by omega),wrap_ok (z:=k+1) (by omega),wrap_ok (z:=2*k+1) (by omega)];refine Tot.gin (by omega) (by omega) (Tot.get (by omega) (by omega) fun _ _ _=> ?_);refine Tot.dite (fun _=> ?_) (fun _=> ?_)
   ·refine Tot.gin (by omega) (by omega) (Tot.get (by omega) (by omega) fun _ _ _=> ?_);refine Tot.dite (fun _=> ?_) (fun _=> ?_)
    ·refine Tot.app (by simp only[List.length_singleton];omega) (by omega) ?_
     exact Tot.next ⟨⟨⟨by simp only;omega,by simp only;omega⟩,by simp only[List.length_append,List.length_singleton];omega⟩,by simp only;omega⟩
    ·exact Tot.next ⟨⟨⟨by simp only;omega,by simp only;omega⟩,by simp only;omega⟩,by simp only;omega⟩
   ·exact Tot.next ⟨⟨⟨by simp only;omega,by simp only;omega⟩,by simp only;omega⟩,by simp only;omega⟩
  ·exact Tot.exit (Tot.exit (Tot.ret (by simp only;omega)))
 ·refine Tot.lp (fun s=>(s.1= -1\/s.1∈q)/\(s.2.1.length:Int)=nodesOf n/\AbOk n s.2.2) (fun s=>if s.1<0 then 0 else q.idxOf s.1+1) ⟨hat,hus,hab⟩ (fun s hs=> ?_);obtain⟨at1,us1,ab1⟩:=s;obtain⟨ha1,hus1,hab1⟩:=hs;simp only at ha1 hus1 hab1;dsimp only;refine Tot.dite (fun h3=> ?_) (fun h3=> ?_)
  ·have ham:at1∈q:=by
    rcases ha1 with e | e
    ·omega
    ·exact e
   have har:=(hsi.mem at1 ham).1;have hback:=hsi.back ham;refine Tot.gin h3 (by omega) (Tot.get h3 (by omega) fun fr hfr _=> ?_);rw[<-hfr]at hback;have hfrr: -1<=fr/\fr<(M:Int):=by
    rcases hback with e | ⟨e,_⟩
    ·omega
    ·have:=(hsi.mem fr e).1;omega
   refine Tot.div2 h3 (by omega) ?_
   have hk:0<=at1/2/\at1/2<nodesOf n:=by omega
   refine Tot.join (A:=fun a:List Bool=>(a.length:Int)=nodesOf n) ?_ fun us2 hus2=> ?_
   ·refine Tot.rem h3 (by omega) ?_
    refine Tot.dite (fun _=> ?_) (fun _=>Tot.next hus1);refine Tot.dite (fun _=> ?_) (fun _=>Tot.next hus1);refine Tot.gin hk.1 (by omega) (Tot.get hk.1 (by omega) fun _ _ _=> ?_);exact Tot.next (by rw[gset_len];exact hus1)
   refine Tot.join (A:=fun a:List Bool=>(a.length:Int)=nodesOf n) ?_ fun us3 hus3=> ?_
   ·refine Tot.rem h3 (by omega) ?_
    refine Tot.dite (fun _=> ?_) (fun _=>Tot.next hus2);refine Tot.dite (fun _=> ?_) (fun _=>Tot.next hus2);refine Tot.gin hk.1 (by omega) (Tot.get hk.1 (by omega) fun _ _ _=> ?_);exact Tot.next (by rw[gset_len];exact hus2)
   have abset:∀{ab:List Int} {y:Int},AbOk n ab→-1<=y/\y<nodesOf n->AbOk n (gset ab (at1/2) y):=fun {ab y} hA hy=>⟨by rw[gset_len];exact hA.1,fun z hz=>by
    rcases gset_mem hz with hz | rfl
    ·exact hA.2 z hz
    ·exact hy⟩
   refine Tot.join (A:=fun a:List Int=>AbOk n a) ?_ fun ab2 hab2=> ?_
   ·refine Tot.rem h3 (by omega) ?_
    refine Tot.dite (fun _=> ?_) (fun _=>Tot.next hab1);refine Tot.dite (fun _=> ?_) (fun _=>Tot.next hab1);refine Tot.gin hk.1 (by rw[hab1.1];omega) (Tot.get hk.1 (by rw[hab1.1];omega) fun _ _ _=> ?_);exact Tot.next (abset hab1 (by omega))
   have nxt:∀ab',AbOk n ab'→Tot (some (Sum.inl (fr,(us3,ab')):(Int×(List Bool×List Int))⊕((Int×(List Bool×List Int))⊕(List Int×Bool)))) (SumP (fun s' =>((s'.1= -1\/s'.1∈q)/\(s'.2.1.length:Int)=nodesOf n/\AbOk n s'.2.2)/\(if s'.1<0 then 0 else q.idxOf s'.1+1)<(if at1<0 then 0 else q.idxOf at1+1)) (SumP (fun s' =>((0<=s'.1/\s'.1<=5)/\(s'.2.1.length:Int)=nodesOf n/\AbOk n s'.2.2)/\(5 - s'.1).toNat<(5 - fl).toNat) (fun r=>r.1.length<=1000))):=fun ab' hA=>by
    refine Tot.next ⟨⟨?_,hus3,hA⟩,?_⟩
    ·rcases hback with e | ⟨e,_⟩
     ·exact .inl e
     ·exact .inr e
    ·simp only;rw[if_neg (show ¬at1<0 by omega)];rcases hback with e | ⟨_,e⟩
     ·rw[if_pos (by omega)];omega
     ·split<;>omega
   refine Tot.rem h3 (by omega) ?_
   refine Tot.dite (fun _=> ?_) (fun _=>nxt ab2 hab2);refine Tot.dite (fun hf0=> ?_) (fun _=>nxt ab2 hab2);refine Tot.dite (fun _=> ?_) (fun _=>nxt ab2 hab2);refine Tot.div2 hf0 (by omega) ?_
   refine Tot.gin hk.1 (by rw[hab2.1];omega) (Tot.get hk.1 (by rw[hab2.1];omega) fun _ _ _=> ?_);exact nxt _ (abset hab2 (by omega))
  ·refine Tot.exit ?_
   rw[wrap_ok (z:=fl+1) (by omega)];exact Tot.next ⟨⟨⟨by simp only;omega,by simp only;omega⟩,hus1,hab1⟩,by simp only;omega⟩
theorem labels_tot {n:SNet}(h:NOk n)(hk:spec_NetOk n=some true):Tot (spec_Labels n) (fun r=>(r.length:Int)=nodesOf n):=by
 unfold spec_Labels;have hc:=caps_bd h.caps;refine Tot.bindEq hk ?_
 dsimp only;refine Tot.nite (fun e=>by cases e) (fun _=> ?_);refine Tot.bindEq (nodeCount_nok h) ?_
 refine Tot.make (by omega) (by omega) (by omega) ?_
 refine Tot.bindEq (first_nok h) ?_
 refine Tot.lp (fun s=>(firstOf n<=s.1/\s.1<=nodesOf n)/\(s.2.length:Int)=nodesOf n) (fun s=>(nodesOf n - s.1).toNat) ⟨⟨by simp only;omega,by simp only;omega⟩,by simp only[List.length_replicate];omega⟩ (fun s hs=> ?_);obtain⟨k,lb⟩:=s;obtain⟨⟨k0,k1⟩,hl⟩:=hs;simp only at k0 k1 hl;refine Tot.bindEq (nodeCount_nok h) ?_
 dsimp only;refine Tot.dite (fun h1=> ?_) (fun h1=>Tot.exit (Tot.ret hl));refine Tot.bindEq (first_nok h) ?_
 rw[wrap_ok (z:=k - firstOf n) (by omega),wrap_ok (z:=k+1) (by omega)];refine Tot.get (by omega) (by omega) fun a ha _=> ?_
 have hlit:=and_at h (show 0<=k - firstOf n by omega) (by omega);rw[<-ha]at hlit;unfold Lit at hlit;refine Tot.div2 (by omega) (by omega) ?_
 refine Tot.gin (by omega) (by omega) (Tot.get (by omega) (by omega) fun _ _ _=> ?_);refine Tot.div2 (by omega) (by omega) ?_
 refine Tot.gin (by omega) (by omega) (Tot.get (by omega) (by omega) fun _ _ _=> ?_);refine Tot.gin (by omega) (by omega) (Tot.get (by omega) (by omega) fun _ _ _=> ?_);have nxt:∀q:List Int,(q.length:Int)=nodesOf n->Tot (some (Sum.inl (k+1,q):(Int×List Int)⊕List Int)) (SumP (fun s' =>((firstOf n<=s'.1/\s'.1<=nodesOf n)/\(s'.2.length:Int)=nodesOf n)/\(nodesOf n - s'.1).toNat<(nodesOf n - k).toNat) (fun r=>(r.length:Int)=nodesOf n)):=fun q hq=>
  Tot.next ⟨⟨⟨by simp only;omega,by simp only;omega⟩,hq⟩,by simp only;omega⟩
 refine Tot.dite (fun _=> ?_) (fun _=>nxt _ (by rw[gset_len];exact hl));refine Tot.bind (cut17_tot h (by rw[gset_len];exact hl) (by omega) (by omega)) fun r _=> ?_
 refine Tot.ite (fun _=> ?_) (fun _=>nxt _ (by rw[gset_len];exact hl));refine Tot.gin (by omega) (by rw[gset_len];omega) (Tot.get (by omega) (by rw[gset_len];omega) fun _ _ _=> ?_);exact nxt _ (by rw[gset_len,gset_len];exact hl)
theorem depthMap_tot2 {n:SNet}(hb:NB n):Tot (spec_DepthMapping n) (fun r=>(∀c∈r,c.length<=1000)/\(r=[]\/(spec_NetOk n=some true/\NOk n/\(r.length:Int)=nodesOf n - firstOf n))):=by
 unfold spec_DepthMapping;obtain⟨ok,hk,hok⟩:=netOk_tot hb;refine Tot.bindEq hk ?_
 dsimp only;refine Tot.nite (fun _=>Tot.ret ⟨fun c hc=>(by cases hc),.inl rfl⟩) (fun ho=> ?_);subst ho;have h:=hok rfl;have hc:=caps_bd h.caps;refine Tot.bind (labels_tot h hk) fun lb hlb=> ?_
 refine Tot.bindEq (first_nok h) ?_
 refine Tot.lp (fun s=>(firstOf n<=s.1/\s.1<=nodesOf n)/\(s.2.length:Int)=s.1 - firstOf n/\∀c∈s.2,c.length<=1000) (fun s=>(nodesOf n - s.1).toNat) ⟨⟨by simp only;omega,by simp only;omega⟩,by simp only[List.length_nil];omega,fun c hc=>(by cases hc)⟩ (fun s hs=> ?_);obtain⟨k,cs⟩:=s;obtain⟨⟨k0,k1⟩,hl,hcs⟩:=hs;simp only at k0 k1 hl hcs;refine Tot.bindEq (nodeCount_nok h) ?_
 dsimp only;refine Tot.dite (fun h1=> ?_) (fun h1=>Tot.exit (Tot.ret ⟨hcs,.inr ⟨hk,h,by omega⟩⟩));refine Tot.gin (by omega) (by omega) (Tot.get (by omega) (by omega) fun _ _ _=> ?_);refine Tot.bind (cut17_tot h hlb (by omega) h1) fun r hr=> ?_
 refine Tot.app (by simp only[List.length_singleton];omega) (by omega) ?_
 rw[wrap_ok (z:=k+1) (by omega)];refine Tot.next ⟨⟨⟨by simp only;omega,by simp only;omega⟩,by simp only[List.length_append,List.length_singleton];omega,fun c hc2=> ?_⟩,by simp only;omega⟩;rcases List.mem_append.1 hc2 with hc2 | hc2
 ·exact hcs c hc2
 ·rw[List.mem_singleton.1 hc2];exact hr
end Go.Pf
/-
  Own work. Draws, plainly: all cuts of a node, drawn cuts, drawn LUT networks.
-/
namespace Go.Pf
open Go Go.Pu
set_option linter.unusedVariables false
theorem strict13_tot {a:List Int}(ha:a.length<=1000):Tot (spec_l13Strict a) (fun _=>True):=by
 unfold spec_l13Strict;dsimp only;refine Tot.lp (fun i=>0<=i/\i<=(a.length:Int)) (fun i=>((a.length:Int) - i).toNat) ⟨by omega,by omega⟩ (fun i hi=> ?_);obtain⟨i0,i1⟩:=hi;refine Tot.dite (fun h1=> ?_) (fun _=>Tot.exit (Tot.ret trivial));rw[wrap_ok (z:=i+1) (by omega)];refine Tot.get i0 h1 fun _ _ _=> ?_
 refine Tot.dite (fun _=>Tot.exit (Tot.ret trivial)) (fun _=> ?_);refine Tot.dite (fun h2=> ?_) (fun _=>Tot.next ⟨⟨by omega,by omega⟩,by omega⟩);refine Tot.get i0 h1 fun _ _ _=> ?_
 rw[wrap_ok (z:=i - 1) (by omega)];refine Tot.get (by omega) (by omega) fun _ _ _=> ?_
 exact Tot.dite (fun _=>Tot.exit (Tot.ret trivial)) (fun _=>Tot.next ⟨⟨by omega,by omega⟩,by omega⟩)
theorem less_tot {a b:List Int}(ha:a.length<=1000):Tot (spec_CutLess (a,b)) (fun _=>True):=by
 unfold spec_CutLess;dsimp only;refine Tot.dite (fun _=>Tot.ret trivial) (fun he=> ?_);refine Tot.lp (fun i=>0<=i/\i<=(a.length:Int)) (fun i=>((a.length:Int) - i).toNat) ⟨by omega,by omega⟩ (fun i hi=> ?_);obtain⟨i0,i1⟩:=hi;refine Tot.dite (fun h1=> ?_) (fun _=>Tot.exit (Tot.ret trivial));rw[wrap_ok (z:=i+1) (by omega)];refine Tot.get i0 h1 fun _ _ _=>Tot.get i0 (by omega) fun _ _ _=> ?_
 refine Tot.dite (fun _=> ?_) (fun _=>Tot.next ⟨⟨by omega,by omega⟩,by omega⟩);exact Tot.get i0 h1 fun _ _ _=>Tot.get i0 (by omega) fun _ _ _=>Tot.exit (Tot.ret trivial)
theorem mergeCuts_tot {a b:List Int}(ha:a.length<=1000)(hb:b.length<=1000):Tot (spec_MergeCuts (a,b)) (fun r=>r.1.length<=1000):=by
 unfold spec_MergeCuts;dsimp only;refine Tot.bind (strict13_tot ha) fun _ _=> ?_
 refine Tot.nite (fun _=>Tot.ret (by simp)) (fun _=> ?_);refine Tot.bind (strict13_tot hb) fun _ _=> ?_
 refine Tot.nite (fun _=>Tot.ret (by simp)) (fun _=> ?_);refine Tot.lp (fun s=>(0<=s.1/\s.1<=(a.length:Int))/\(0<=s.2.2/\s.2.2<=(b.length:Int))/\s.2.1.length<=4) (fun s=>((a.length:Int) - s.1+((b.length:Int) - s.2.2)).toNat) ⟨⟨by simp only;omega,by simp only;omega⟩,⟨by simp only;omega,by simp only;omega⟩,by simp⟩ (fun s hs=> ?_);obtain⟨i,o,j⟩:=s;obtain⟨⟨i0,i1⟩,⟨j0,j1⟩,ho⟩:=hs;simp only at i0 i1 j0 j1 ho;dsimp only;refine Tot.join (A:=fun _:Unit=>i<(a.length:Int)\/j<(b.length:Int)) ?_ fun _ hij=> ?_
 ·refine Tot.dite (fun h=>Tot.next (.inl h)) (fun _=> ?_);refine Tot.dite (fun h=>Tot.next (.inr h)) (fun _=> ?_);exact Tot.exit (Tot.exit (Tot.ret (by simp only;omega)))
 refine Tot.dite (fun _=>Tot.exit (Tot.ret (by simp))) (fun h4=> ?_);refine Tot.join (A:=fun c:Bool=>(c=true->i<(a.length:Int))/\(c=false->j<(b.length:Int))) ?_ fun c hc=> ?_
 ·refine Tot.dite (fun h=>Tot.next ⟨fun _=>by omega,fun e=>(by cases e)⟩) (fun _=> ?_);refine Tot.dite (fun h=> ?_) (fun _=>Tot.next ⟨fun e=>(by cases e),fun _=>by omega⟩);refine Tot.get i0 h fun _ _ _=>Tot.get j0 (by omega) fun _ _ _=> ?_
  exact Tot.next ⟨fun _=>h,fun _=>by omega⟩
 have w1:wrap .i64 (i+1)=i+1:=wrap_ok (by omega);have w2:wrap .i64 (j+1)=j+1:=wrap_ok (by omega);refine Tot.ite (fun e=> ?_) (fun e=> ?_)
 ·have hi:=hc.1 e;refine Tot.get i0 hi fun _ _ _=> ?_
  refine Tot.app (by simp only[List.length_singleton];omega) (by omega) ?_
  rw[w1];exact Tot.next ⟨⟨⟨by simp only;omega,by simp only;omega⟩,⟨j0,j1⟩,by simp only[List.length_append,List.length_singleton];omega⟩,by simp only;omega⟩
 have hj:=hc.2 e;refine Tot.dite (fun _=> ?_) (fun hi=> ?_)
 ·refine Tot.get j0 hj fun _ _ _=> ?_
  refine Tot.app (by simp only[List.length_singleton];omega) (by omega) ?_
  rw[w2];exact Tot.next ⟨⟨⟨i0,i1⟩,⟨by simp only;omega,by simp only;omega⟩,by simp only[List.length_append,List.length_singleton];omega⟩,by simp only;omega⟩
 refine Tot.get j0 hj fun _ _ _=>Tot.get i0 (by omega) fun _ _ _=> ?_
 refine Tot.dite (fun _=> ?_) (fun _=> ?_)
 ·refine Tot.get j0 hj fun _ _ _=> ?_
  refine Tot.app (by simp only[List.length_singleton];omega) (by omega) ?_
  rw[w2];exact Tot.next ⟨⟨⟨i0,i1⟩,⟨by simp only;omega,by simp only;omega⟩,by simp only[List.length_append,List.length_singleton];omega⟩,by simp only;omega⟩
 ·refine Tot.get i0 (by omega) fun _ _ _=> ?_
  refine Tot.app (by simp only[List.length_singleton];omega) (by omega) ?_
  rw[w1,w2];exact Tot.next ⟨⟨⟨by simp only;omega,by simp only;omega⟩,⟨by simp only;omega,by simp only;omega⟩,by simp only[List.length_append,List.length_singleton];omega⟩,by simp only;omega⟩
def Cts (m:Nat)(l:List (List Int)):Prop:=l.length<=m/\∀c∈l,c.length<=1000
theorem Cts.app {m k:Nat}{l:List (List Int)}{c:List Int}(h:Cts m l)(hc:c.length<=1000)(hk:m+1<=k):Cts k (l++[c]):=⟨by rw[List.length_append,List.length_singleton];have:=h.1;omega,fun x hx=>by
 rcases List.mem_append.1 hx with hx | hx
 ·exact h.2 x hx
 ·rw[List.mem_singleton.1 hx];exact hc⟩
theorem Cts.mono {m k:Nat}{l:List (List Int)}(h:Cts m l)(hk:m<=k):Cts k l:=⟨by have:=h.1;omega,h.2⟩
theorem cts_nil (m:Nat):Cts m []:=⟨by simp,fun c hc=>(by cases hc)⟩
theorem add13_tot {m:Nat}{l:List (List Int)}{c:List Int}(hl:Cts m l)(hm:m<=100000)(hc:c.length<=1000):Tot (spec_l13Add (l,c)) (fun r=>Cts (m+1) r):=by
 unfold spec_l13Add;dsimp only;have hll:=hl.1;refine Tot.lp (fun s=>(0<=s.2.1/\s.2.1<=(l.length:Int))/\Cts (s.2.1.toNat+(bif s.1 then 1 else 0)) s.2.2) (fun s=>((l.length:Int) - s.2.1).toNat) ⟨⟨by simp only;omega,by simp only;omega⟩,cts_nil _⟩ (fun s hs=> ?_);obtain⟨dn,i,o⟩:=s;obtain⟨⟨i0,i1⟩,ho⟩:=hs;simp only at i0 i1 ho;dsimp only;have hol:=ho.1;have hol2:o.length<=200000:=by cases dn<;>simp only[cond_true,cond_false]at hol<;>omega
 have w1:wrap .i64 (i+1)=i+1:=wrap_ok (by omega);rw[w1];refine Tot.dite (fun h1=> ?_) (fun h1=> ?_)
 ·refine Tot.nite (fun e=> ?_) (fun e=> ?_)
  ·subst e;simp only[cond_false]at ho;refine Tot.get i0 h1 fun x _ hx=> ?_
   refine Tot.bind (less_tot (hl.2 x hx)) fun b _=> ?_
   refine Tot.nite (fun _=> ?_) (fun _=> ?_)
   ·refine Tot.app (by simp only[List.length_singleton];omega) (by omega) ?_
    have h2:Cts (i.toNat+1) (o++[c]):=ho.app hc (by omega);refine Tot.get i0 h1 fun y _ hy=> ?_
    refine Tot.bind (less_tot hc) fun b2 _=> ?_
    refine Tot.nite (fun _=> ?_) (fun _=> ?_)
    ·exact Tot.next ⟨⟨⟨by simp only;omega,by simp only;omega⟩,h2.mono (by simp only[cond_true];omega)⟩,by simp only;omega⟩
    ·refine Tot.get i0 h1 fun z _ hz=> ?_
     refine Tot.app (by simp only[List.length_append,List.length_singleton];omega) (by omega) ?_
     exact Tot.next ⟨⟨⟨by simp only;omega,by simp only;omega⟩,h2.app (hl.2 z hz) (by simp only[cond_true];omega)⟩,by simp only;omega⟩
   ·refine Tot.get i0 h1 fun z _ hz=> ?_
    refine Tot.app (by simp only[List.length_singleton];omega) (by omega) ?_
    exact Tot.next ⟨⟨⟨by simp only;omega,by simp only;omega⟩,ho.app (hl.2 z hz) (by simp only[cond_false];omega)⟩,by simp only;omega⟩
  ·subst e;simp only[cond_true]at ho;refine Tot.get i0 h1 fun z _ hz=> ?_
   refine Tot.app (by simp only[List.length_singleton];omega) (by omega) ?_
   exact Tot.next ⟨⟨⟨by simp only;omega,by simp only;omega⟩,ho.app (hl.2 z hz) (by simp only[cond_true];omega)⟩,by simp only;omega⟩
 ·refine Tot.exit ?_
  refine Tot.nite (fun e=> ?_) (fun e=> ?_)
  ·subst e;simp only[cond_false]at ho;refine Tot.app (by simp only[List.length_singleton];omega) (by omega) ?_
   exact Tot.ret (ho.app hc (by omega))
  ·subst e;simp only[cond_true]at ho;exact Tot.ret (ho.mono (by omega))
theorem within_tot {a b:List Int}(ha:a.length<=1000)(hb:b.length<=1000):Tot (spec_l13Within (a,b)) (fun _=>True):=by
 unfold spec_l13Within;dsimp only;refine Tot.lp (fun i=>0<=i/\i<=(a.length:Int)) (fun i=>((a.length:Int) - i).toNat) ⟨by omega,by omega⟩ (fun i hi=> ?_);obtain⟨i0,i1⟩:=hi;refine Tot.dite (fun h1=> ?_) (fun _=>Tot.exit (Tot.ret trivial));rw[wrap_ok (z:=i+1) (by omega)];refine Tot.get i0 h1 fun _ _ _=> ?_
 refine Tot.bindEq (has13 _ _ (by omega)) ?_
 exact Tot.nite (fun _=>Tot.exit (Tot.ret trivial)) (fun _=>Tot.next ⟨⟨by omega,by omega⟩,by omega⟩)
theorem join13_tot {a b:List (List Int)}(ha:Cts 8 a)(hb:Cts 8 b):Tot (spec_l13Join (a,b)) (fun r=>Cts 7 r):=by
 unfold spec_l13Join;dsimp only;have hal:=ha.1;have hbl:=hb.1;refine Tot.lp (fun s=>(0<=s.1/\s.1<=(a.length:Int))/\Cts (8*s.1.toNat) s.2) (fun s=>((a.length:Int) - s.1).toNat) ⟨⟨by simp only;omega,by simp only;omega⟩,cts_nil _⟩ (fun s hs=> ?_);obtain⟨i,l⟩:=s;obtain⟨⟨i0,i1⟩,hl⟩:=hs;simp only at i0 i1 hl;dsimp only;refine Tot.dite (fun h1=> ?_) (fun h1=> ?_)
 ·refine Tot.lp (fun s=>(0<=s.1/\s.1<=(b.length:Int))/\Cts (8*i.toNat+s.1.toNat) s.2) (fun s=>((b.length:Int) - s.1).toNat) ⟨⟨by simp only;omega,by simp only;omega⟩,hl.mono (by omega)⟩ (fun s hs=> ?_);obtain⟨j,l2⟩:=s;obtain⟨⟨j0,j1⟩,hl2⟩:=hs;simp only at j0 j1 hl2;dsimp only;refine Tot.dite (fun h2=> ?_) (fun h2=> ?_)
  ·rw[wrap_ok (z:=j+1) (by omega)];refine Tot.get i0 h1 fun x _ hx=>Tot.get j0 h2 fun y _ hy=> ?_
   refine Tot.bind (mergeCuts_tot (ha.2 x hx) (hb.2 y hy)) fun r hr=> ?_
   refine Tot.ite (fun _=> ?_) (fun _=> ?_)
   ·refine Tot.bind (add13_tot hl2 (by omega) hr) fun l3 hl3=> ?_
    exact Tot.next ⟨⟨⟨by simp only;omega,by simp only;omega⟩,hl3.mono (by simp only;omega)⟩,by simp only;omega⟩
   ·exact Tot.next ⟨⟨⟨by simp only;omega,by simp only;omega⟩,hl2.mono (by simp only;omega)⟩,by simp only;omega⟩
  ·refine Tot.exit ?_
   rw[wrap_ok (z:=i+1) (by omega)];exact Tot.next ⟨⟨⟨by simp only;omega,by simp only;omega⟩,hl2.mono (by simp only;omega)⟩,by simp only;omega⟩
 refine Tot.exit ?_
 have hll:=hl.1;refine Tot.join (A:=fun r=>Cts 7 r) ?_ fun r hr=>Tot.ret hr
 refine Tot.lp (fun s=>(0<=s.1/\s.1<=(l.length:Int))/\Cts 7 s.2) (fun s=>((l.length:Int) - s.1).toNat) ⟨⟨by simp only;omega,by simp only;omega⟩,cts_nil _⟩ (fun s hs=> ?_);obtain⟨k,o⟩:=s;obtain⟨⟨k0,k1⟩,ho⟩:=hs;simp only at k0 k1 ho;dsimp only;refine Tot.dite (fun h2=> ?_) (fun h2=>Tot.exit (Tot.next ho));refine Tot.dite (fun h3=> ?_) (fun h3=>Tot.exit (Tot.next ho));refine Tot.join (A:=fun _:Bool=>True) ?_ fun w _=> ?_
 ·refine Tot.lp (fun s=>0<=s.2/\s.2<=k) (fun s=>(k - s.2).toNat) ⟨by simp only;omega,by simp only;omega⟩ (fun s hs=> ?_);obtain⟨w,j⟩:=s;obtain⟨j0,j1⟩:=hs;simp only at j0 j1;dsimp only;refine Tot.dite (fun h4=> ?_) (fun _=>Tot.exit (Tot.next trivial));refine Tot.ite (fun _=> ?_) (fun _=>Tot.exit (Tot.next trivial));rw[wrap_ok (z:=j+1) (by omega)];refine Tot.gin j0 (by omega) (Tot.get j0 (by omega) fun x _ hx=> ?_);refine Tot.gin k0 (by omega) (Tot.get k0 (by omega) fun y _ hy=> ?_);refine Tot.dite (fun _=> ?_) (fun _=>Tot.next ⟨⟨by simp only;omega,by simp only;omega⟩,by simp only;omega⟩);refine Tot.gin j0 (by omega) (Tot.get j0 (by omega) fun x2 _ hx2=> ?_);refine Tot.gin k0 (by omega) (Tot.get k0 (by omega) fun y2 _ hy2=> ?_);refine Tot.bind (within_tot (hl.2 x2 hx2) (hl.2 y2 hy2)) fun b _=> ?_
  exact Tot.next ⟨⟨by simp only;omega,by simp only;omega⟩,by simp only;omega⟩
 ·rw[wrap_ok (z:=k+1) (by omega)];refine Tot.ite (fun _=> ?_) (fun _=>Tot.next ⟨⟨⟨by simp only;omega,by simp only;omega⟩,ho⟩,by simp only;omega⟩);refine Tot.gin k0 (by omega) (Tot.get k0 (by omega) fun x _ hx=> ?_);refine Tot.app (by simp only[List.length_singleton];omega) (by omega) ?_
  exact Tot.next ⟨⟨⟨by simp only;omega,by simp only;omega⟩,⟨by rw[List.length_append,List.length_singleton];omega,(ho.app (hl.2 x hx) (Nat.le_refl _)).2⟩⟩,by simp only;omega⟩
theorem all13_tot {n:SNet}(h:NOk n){v:Int}(v0:0<=v)(v1:v<nodesOf n):Tot (spec_l13All (n,v)) (fun r=>(r.length:Int)=v+1/\∀c∈r,Cts 8 c/\c≠[]):=by
 unfold spec_l13All;dsimp only;have hc:=caps_bd h.caps;refine Tot.lp (fun s=>(1<=s.1/\s.1<=v+1)/\(s.2.length:Int)=s.1/\∀c∈s.2,Cts 8 c/\c≠[]) (fun s=>(v+1 - s.1).toNat) ⟨⟨by simp only;omega,by simp only;omega⟩,by simp,fun c hc=> ?_⟩ (fun s hs=> ?_)
 ·rw[List.mem_singleton.1 hc];exact⟨⟨by simp,fun x hx=>by rw[List.mem_singleton.1 hx];simp⟩,by simp⟩
 obtain⟨k,all⟩:=s;obtain⟨⟨k0,k1⟩,hl,ha⟩:=hs;simp only at k0 k1 hl ha;dsimp only;refine Tot.dite (fun h1=> ?_) (fun h1=>Tot.exit (Tot.ret ⟨by omega,ha⟩));rw[wrap_ok (z:=k+1) (by omega)];have fin:∀j:List (List Int),Cts 7 j->Tot ((gapp 24 j [[k]]).bind fun v19=>(gapp 24 all [v19]).bind fun v21=>some (.inl (k+1,v21):(Int×List (List (List Int)))⊕List (List (List Int)))) (SumP (fun s' =>((1<=s'.1/\s'.1<=v+1)/\(s'.2.length:Int)=s'.1/\∀c∈s'.2,Cts 8 c/\c≠[])/\(v+1 - s'.1).toNat<(v+1 - k).toNat) (fun r=>(r.length:Int)=v+1/\∀c∈r,Cts 8 c/\c≠[])):=fun j hj=>by
  have hjl:=hj.1;refine Tot.app (by simp only[List.length_singleton];omega) (by omega) ?_
  refine Tot.app (by simp only[List.length_singleton];omega) (by omega) ?_
  refine Tot.next ⟨⟨⟨by simp only;omega,by simp only;omega⟩,by simp only[List.length_append,List.length_singleton];omega,fun c hc=> ?_⟩,by simp only;omega⟩;rcases List.mem_append.1 hc with hc | hc
  ·exact ha c hc
  ·rw[List.mem_singleton.1 hc];exact⟨hj.app (by simp) (by omega),by simp⟩
 refine Tot.bindEq (first_nok h) ?_
 refine Tot.dite (fun h2=> ?_) (fun h2=>fin [] (cts_nil _));refine Tot.bindEq (first_nok h) ?_
 rw[wrap_ok (z:=k - firstOf n) (by omega)];refine Tot.get (by omega) (by omega) fun x hx _=> ?_
 have hlit:=and_at h (show 0<=k - firstOf n by omega) (by omega);rw[<-hx]at hlit;unfold Lit at hlit;refine Tot.div2 (by omega) (by omega) ?_
 refine Tot.gin (by omega) (by omega) (Tot.get (by omega) (by omega) fun c1 _ m1=> ?_);refine Tot.div2 (by omega) (by omega) ?_
 refine Tot.gin (by omega) (by omega) (Tot.get (by omega) (by omega) fun c2 _ m2=> ?_);refine Tot.bind (join13_tot (ha c1 m1).1 (ha c2 m2).1) fun j hj=> ?_
 exact fin j hj
theorem enum_tot {n:SNet}(h:NOk n)(hk:spec_NetOk n=some true){v:Int}(v0:0<=v)(v1:v<nodesOf n):Tot (spec_EnumCuts (n,v)) (fun r=>Cts 8 r/\r≠[]):=by
 unfold spec_EnumCuts;dsimp only;refine Tot.bindEq hk ?_
 refine Tot.nite (fun e=>by cases e) (fun _=> ?_);refine Tot.dite (fun e=>by omega) (fun _=> ?_);refine Tot.bindEq (nodeCount_nok h) ?_
 refine Tot.dite (fun e=>by omega) (fun _=> ?_);refine Tot.bind (all13_tot h v0 v1) fun all hall=> ?_
 obtain⟨hal,ha⟩:=hall;have hm:all.getD v.toNat []∈all:=getD_mem (by omega);obtain⟨⟨hc1,hc2⟩,hc3⟩:=ha _ hm;generalize hcs:all.getD v.toNat []=cs at*;refine Tot.lp (fun s=>(0<=s.1/\s.1<=(cs.length:Int))/\(s.2.length:Int)=s.1/\Cts 8 s.2) (fun s=>((cs.length:Int) - s.1).toNat) ⟨⟨by simp only;omega,by simp only;omega⟩,by simp,cts_nil _⟩ (fun s hs=> ?_);obtain⟨k,o⟩:=s;obtain⟨⟨k0,k1⟩,hol,ho⟩:=hs;simp only at k0 k1 hol ho;dsimp only;refine Tot.gin v0 (by omega) (Tot.get v0 (by omega) fun x hx _=> ?_);have e:x=cs:=by rw[hx,hcs]
 subst e;refine Tot.dite (fun h1=> ?_) (fun h1=>Tot.exit (Tot.ret ⟨ho,fun e=> ?_⟩))
 ·refine Tot.gin v0 (by omega) (Tot.get v0 (by omega) fun y hy _=> ?_);have e:y=x:=by rw[hy,hcs]
  subst e;refine Tot.get k0 h1 fun c _ hc=> ?_
  have hcl:=hc2 c hc;rw[wrap_ok (z:=k+1) (by omega)];refine Tot.app (by simp only[List.length_nil];omega) (by omega) ?_
  refine Tot.app (by simp only[List.length_singleton];omega) (by omega) ?_
  refine Tot.next ⟨⟨⟨by simp only;omega,by simp only;omega⟩,by simp only[List.length_append,List.length_singleton];omega,⟨by simp only[List.length_append,List.length_singleton];omega,(ho.app (by simp only[List.nil_append];exact hcl) (Nat.le_refl _)).2⟩⟩,by simp only;omega⟩
 ·subst e;have:x.length=0:=by simp at hol;omega
  exact hc3 (List.length_eq_zero_iff.1 this)
theorem cuts18_tot {b:List Int}{c:Cur}(hb:CdOk b)(hc:CurOk b c){n:SNet}(hn:NB n):Tot (spec_l18Cuts ((b,c),n)) (fun r=>(∀x∈r.1,x.length<=1000)/\CurOk b r.2):=by
 unfold spec_l18Cuts;dsimp only;refine Tot.bind (depthMap_tot2 hn) fun m hm=> ?_
 obtain⟨hml,hm2⟩:=hm;have hm3:m.length<=1000:=by
  rcases hm2 with e | ⟨_,h,e⟩
  ·rw[e];simp
  ·have:=caps_bd h.caps;omega
 refine Tot.lp (fun s=>(0<=s.1/\s.1<=(m.length:Int))/\CurOk b (s.2.1,s.2.2.1)/\s.2.2.2.length=m.length/\∀x∈s.2.2.2,x.length<=1000) (fun s=>((m.length:Int) - s.1).toNat) ⟨⟨by simp only;omega,by simp only;omega⟩,hc,rfl,hml⟩ (fun s hs=> ?_);obtain⟨i,p,q,o⟩:=s;obtain⟨⟨i0,i1⟩,hcu,hol,ho⟩:=hs;simp only at i0 i1 hcu hol ho;dsimp only;refine Tot.dite (fun h1=> ?_) (fun h1=>Tot.exit (Tot.ret ⟨ho,hcu⟩));have hnk:spec_NetOk n=some true/\NOk n/\(m.length:Int)=nodesOf n - firstOf n:=by
  rcases hm2 with e | e
  ·have:m.length=0:=by rw[e];rfl
   omega
  ·exact e
 obtain⟨hk,h,hml2⟩:=hnk;have hcb:=caps_bd h.caps;rw[wrap_ok (z:=i+1) (by omega)];refine Tot.once hb hcu fun t c1 hc1=> ?_
 refine Tot.ite (fun _=> ?_) (fun _=> ?_)
 ·refine Tot.bindEq (first_nok h) ?_
  rw[wrap_ok (z:=firstOf n+i) (by omega)];refine Tot.bind (enum_tot h hk (by omega) (by omega)) fun l hl=> ?_
  obtain⟨⟨hl1,hl2⟩,hl3⟩:=hl;have hl4:1<=l.length:=by
   cases l with
   | nil=>exact absurd rfl hl3
   | cons _ _=>simp
  rw[wrap_ok (z:=(l.length:Int) - 1) (by omega)];refine Tot.below hb hc1 fun x c2 hc2 z1 y1=> ?_
  have hx:0<=x/\x<(l.length:Int):=by
   split at y1
   ·have:=y1 (by omega);omega
   ·have:=y1 (by omega);omega
  refine Tot.gin hx.1 hx.2 (Tot.get hx.1 hx.2 fun y _ hy=> ?_);refine Tot.gin i0 h1 (Tot.get i0 h1 fun _ _ _=> ?_);refine Tot.next ⟨⟨⟨by simp only;omega,by simp only;omega⟩,hc2,by simp only[gset_len];exact hol,fun z hz=> ?_⟩,by simp only;omega⟩;rcases gset_mem hz with hz | rfl
  ·exact ho z hz
  ·exact hl2 _ hy
 ·exact Tot.next ⟨⟨⟨by simp only;omega,by simp only;omega⟩,hc1,hol,ho⟩,by simp only;omega⟩
end Go.Pf
/-
  Own work. Draws, plainly: LUT networks.
-/
namespace Go.Pf
open Go Go.Pu
set_option linter.unusedVariables false
theorem net20_tot {b:List Int}{c:Cur}(hb:CdOk b)(hc:CurOk b c):Tot (spec_l20Net (b,c)) (fun r=>LB r.1/\CurOk b r.2):=by
 unfold spec_l20Net;dsimp only;refine Tot.once hb hc fun t c1 hc1=> ?_
 refine Tot.ite (fun _=> ?_) (fun _=> ?_)
 ·refine Tot.bind (sized_tot hb hc1 (by omega) (by omega) (by omega)) fun r hr=> ?_
  refine Tot.bind (hash_tot hr.1) fun n hn=> ?_
  refine Tot.bind (cuts18_tot hb hr.2 hn) fun cs hcs=> ?_
  refine Tot.bind (toLuts_tot hn hcs.1) fun l hl=> ?_
  exact Tot.ret ⟨hl,hcs.2⟩
 refine Tot.bind (sized_tot hb hc1 (by omega) (by omega) (by omega)) fun r hr=> ?_
 obtain⟨n,c2⟩:=r;obtain⟨hn,hc2⟩:=hr;simp only at hn hc2;dsimp only;refine Tot.below hb hc2 fun lu c3 hc3 _ y3=> ?_
 have hlu:=y3 (by omega);obtain⟨fz,hfz⟩:∃z,spec_l08First n=some z:=⟨_,rfl⟩;refine Tot.bindEq hfz ?_
 generalize wrap .i64 (fz+lu)=nd;have hsl:=hn.sq;dsimp only;refine Tot.lp (fun s=>(0<=s.1/\s.1<=(n.2.1.length:Int))/\CurOk b (s.2.1,s.2.2.1)/\(s.2.2.2.length:Int)=s.1/\∀x∈s.2.2.2,List.length x.2.2<=1000) (fun s=>((n.2.1.length:Int) - s.1).toNat) ⟨⟨by simp only;omega,by simp only;omega⟩,hc3,by simp,fun x hx=>(by cases hx)⟩ (fun s hs=> ?_);obtain⟨i,p,q,ss⟩:=s;obtain⟨⟨i0,i1⟩,hcu,hsl2,hss⟩:=hs;simp only at i0 i1 hcu hsl2 hss;dsimp only;refine Tot.dite (fun h1=> ?_) (fun h1=> ?_)
 ·refine Tot.join (A:=fun _:Int×Int=>True) ?_ fun kd _=> ?_
  ·refine Tot.gin i0 h1 (Tot.get i0 h1 fun _ _ _=> ?_);refine Tot.gin i0 h1 (Tot.get i0 h1 fun _ _ _=> ?_);exact Tot.next trivial
  have hym:n.2.1.getD i.toNat (0,(0,[]))∈n.2.1:=getD_mem (by omega);have hyl:=(hn.ins _ hym).1;generalize hyd:n.2.1.getD i.toNat (0,(0,[]))=y at*;refine Tot.lp (fun s=>(0<=s.1/\s.1<=(y.2.2.length:Int))/\CurOk b (s.2.1,s.2.2.1)/\(s.2.2.2.length:Int)=s.1) (fun s=>((y.2.2.length:Int) - s.1).toNat) ⟨⟨by simp only;omega,by simp only;omega⟩,hcu,by simp⟩ (fun s hs=> ?_);obtain⟨k,p2,q2,is⟩:=s;obtain⟨⟨k0,k1⟩,hcu2,hil⟩:=hs;simp only at k0 k1 hcu2 hil;dsimp only;refine Tot.gin i0 h1 (Tot.get i0 h1 fun y2 hy2 _=> ?_);rw[hyd]at hy2;subst hy2;refine Tot.dite (fun h2=> ?_) (fun h2=> ?_)
  ·refine Tot.below hb hcu2 fun x c4 hc4 _ _=> ?_
   refine Tot.app (by simp only[List.length_singleton];omega) (by omega) ?_
   rw[wrap_ok (z:=k+1) (by omega)];exact Tot.next ⟨⟨⟨by simp only;omega,by simp only;omega⟩,hc4,by simp only[List.length_append,List.length_singleton];omega⟩,by simp only;omega⟩
  ·refine Tot.exit ?_
   refine Tot.app (by simp only[List.length_singleton];omega) (by omega) ?_
   rw[wrap_ok (z:=i+1) (by omega)];refine Tot.next ⟨⟨⟨by simp only;omega,by simp only;omega⟩,hcu2,by simp only[List.length_append,List.length_singleton];omega,fun x hx=> ?_⟩,by simp only;omega⟩;rcases List.mem_append.1 hx with hx | hx
   ·exact hss x hx
   ·rw[List.mem_singleton.1 hx];simp only;omega
 refine Tot.exit ?_
 have hsl3:ss.length<=1000:=by omega
 clear h1 i0 i1 hsl2
 refine Tot.lp (fun s=>(0<=s.1/\s.1<=lu)/\CurOk b (s.2.1,s.2.2.1)/\(s.2.2.2.length:Int)=s.1/\∀x∈s.2.2.2,List.length x.1<=4) (fun s=>(lu - s.1).toNat) ⟨⟨by simp only;omega,by simp only;omega⟩,hcu,by simp,fun x hx=>(by cases hx)⟩ (fun s hs=> ?_);obtain⟨i,p,q,ls⟩:=s;obtain⟨⟨i0,i1⟩,hcu,hll,hls⟩:=hs;simp only at i0 i1 hcu hll hls;dsimp only;refine Tot.dite (fun h1=> ?_) (fun h1=> ?_)
 ·refine Tot.below hb hcu fun m c4 hc4 _ y4=> ?_
  have hm:=y4 (by omega);refine Tot.lp (fun s=>(0<=s.1/\s.1<=m)/\CurOk b (s.2.1,s.2.2.1)/\(s.2.2.2.length:Int)=m - s.1) (fun s=>s.1.toNat) ⟨⟨by simp only;omega,by simp only;omega⟩,hc4,by simp⟩ (fun s hs=> ?_);obtain⟨k,p2,q2,is⟩:=s;obtain⟨⟨k0,k1⟩,hcu2,hil⟩:=hs;simp only at k0 k1 hcu2 hil;dsimp only;refine Tot.dite (fun h2=> ?_) (fun h2=> ?_)
  ·refine Tot.bindEq (show spec_l20First (n.1,(ss,(ls,([]:List Int))))=some _ from rfl) ?_
   refine Tot.bindEq (show spec_l20First (n.1,(ss,(ls,([]:List Int))))=some _ from rfl) ?_
   refine Tot.below hb hcu2 fun x c5 hc5 _ _=> ?_
   refine Tot.app (by simp only[List.length_singleton];omega) (by omega) ?_
   rw[wrap_ok (z:=k - 1) (by omega)];exact Tot.next ⟨⟨⟨by simp only;omega,by simp only;omega⟩,hc5,by simp only[List.length_append,List.length_singleton];omega⟩,by simp only;omega⟩
  ·refine Tot.exit ?_
   refine Tot.bindEq (full_cases (k:=(is.length:Int)) (by omega)) ?_
   refine Tot.below hb hcu2 fun x c5 hc5 _ _=> ?_
   refine Tot.app (by simp only[List.length_singleton];omega) (by omega) ?_
   rw[wrap_ok (z:=i+1) (by omega)];refine Tot.next ⟨⟨⟨by simp only;omega,by simp only;omega⟩,hc5,by simp only[List.length_append,List.length_singleton];omega,fun x hx=> ?_⟩,by simp only;omega⟩;rcases List.mem_append.1 hx with hx | hx
   ·exact hls x hx
   ·rw[List.mem_singleton.1 hx];simp only;omega
 refine Tot.exit ?_
 have hll3:ls.length<=1000:=by omega
 clear h1 i0 i1 hll
 refine Tot.below hb hcu fun m c4 hc4 _ y4=> ?_
 have hm:=y4 (by omega);refine Tot.lp (fun s=>(-1<=s.1/\s.1<=m)/\CurOk b (s.2.1,s.2.2.1)/\(s.2.2.2.length:Int)=m - s.1) (fun s=>(s.1+1).toNat) ⟨⟨by simp only;omega,by simp only;omega⟩,hc4,by simp⟩ (fun s hs=> ?_);obtain⟨k,p2,q2,o⟩:=s;obtain⟨⟨k0,k1⟩,hcu2,hol⟩:=hs;simp only at k0 k1 hcu2 hol;dsimp only;refine Tot.dite (fun h2=> ?_) (fun h2=> ?_)
 ·refine Tot.below hb hcu2 fun x c5 hc5 _ _=> ?_
  refine Tot.app (by simp only[List.length_singleton];omega) (by omega) ?_
  rw[wrap_ok (z:=k - 1) (by omega)];exact Tot.next ⟨⟨⟨by simp only;omega,by simp only;omega⟩,hc5,by simp only[List.length_append,List.length_singleton];omega⟩,by simp only;omega⟩
 ·refine Tot.exit (Tot.ret ⟨⟨hsl3,hss,hll3,fun x hx=> ?_,by simp only;omega⟩,hcu2⟩);have:=hls x hx;omega
theorem luts_tot {b:List Int}(hb:CdOk b):Tot (spec_DrawLuts b) (fun r=>NetB r.1):=by
 unfold spec_DrawLuts;obtain⟨c,hnew,hc⟩:=new_ok hb;refine Tot.bindEq hnew ?_
 refine Tot.bind (net20_tot hb hc) fun r hr=> ?_
 obtain⟨l,c1⟩:=r;obtain⟨hl,hc1⟩:=hr;simp only at hl hc1;dsimp only;have hsl:=hl.sq;refine Tot.lp (fun s=>(0<=s.1/\s.1<=(l.2.1.length:Int))/\CurOk b (s.2.1,s.2.2.1)/\(s.2.2.2.length:Int)=s.1) (fun s=>((l.2.1.length:Int) - s.1).toNat) ⟨⟨by simp only;omega,by simp only;omega⟩,hc1,by simp⟩ (fun s hs=> ?_);obtain⟨i,p,q,o⟩:=s;obtain⟨⟨i0,i1⟩,hcu,hol⟩:=hs;simp only at i0 i1 hcu hol;dsimp only;refine Tot.dite (fun h1=> ?_) (fun h1=>Tot.exit (Tot.ret hl.netB));refine Tot.gin i0 h1 (Tot.get i0 h1 fun x _ _=> ?_);refine Tot.below hb hcu fun y c2 hc2 _ _=> ?_
 refine Tot.app (by simp only[List.length_singleton];omega) (by omega) ?_
 rw[wrap_ok (z:=i+1) (by omega)];exact Tot.next ⟨⟨⟨by simp only;omega,by simp only;omega⟩,hc2,by simp only[List.length_append,List.length_singleton];omega⟩,by simp only;omega⟩
end Go.Pf
/-
  Own work. FnPackKeeps, plainly.
-/
namespace Go.Pf
open Go Go.Pu
set_option linter.unusedVariables false
theorem bk_lens {n:Net}(hn:netP n=true){b:Blk}(h:bkOk n b=true):(pinN n b).length<=5/\(outN n b).length<=2/\b.2.2.length<=2:=by
 obtain⟨hln,ho,hs,hl⟩:=netP_all hn;have hitem:=bk_item h;unfold bkOk at h;rw[Bool.and_eq_true]at h;obtain⟨h1,h2⟩:=h;unfold blk0 at h2;unfold pinN outN;by_cases k0:b.1=0
 ·rw[if_neg (show ¬b.1=3 by omega)]at h2;have h2:=of_decide_eq_true h2;rw[if_pos k0,if_pos k0];exact⟨by simp,by simp,by omega⟩
 rw[if_neg k0,if_neg k0];by_cases k1:b.1=1
 ·rw[if_neg (show ¬b.1=3 by omega)]at h2;have h2:=of_decide_eq_true h2;rw[if_pos k1,if_pos k1];exact⟨by simp,by simp,by omega⟩
 rw[if_neg k1,if_neg k1];by_cases k2:b.1=2
 ·rw[if_neg (show ¬b.1=3 by omega)]at h2;have h2:=of_decide_eq_true h2;have hi:=hitem.2.2 k2;have hk:=(hs b.2.1.toNat (by omega)).1;have h3:=h2.2 k2;rw[if_pos k2,if_pos k2];refine⟨by rcases hk with q | q<;>omega,by simp,by omega⟩
 rw[if_neg k2,if_neg k2];obtain⟨k3,hls⟩:=item3 h1 k0 k1 k2;rw[if_pos k3]at h2;have h2:=of_decide_eq_true h2;have h4:=outsL_len n b.2.2 b.2.2.length;exact⟨h2.2.2,by omega,h2.2.1.2⟩
theorem law_FnPackKeeps (x:List Int)(h:InR (tS 0 (.int .u8)) x):laws_FnPackKeeps x=some true:=by
 unfold laws_FnPackKeeps;rw[big_ok];simp only[Option.bind_some];by_cases hb:1048576<(x.length:Int)
 ·rw[dt hb];rfl
 rw[df hb,cond_false];obtain⟨⟨n,st⟩,e,hn⟩:=luts_tot (b:=x) (by unfold CdOk;omega);simp only at hn;rw[e];simp only[Option.bind_some];rcases pack_run2 n hn with⟨hnp,hi,hs⟩ | ⟨hnp,out,hp,hi,hs⟩
 ·rw[hs,hi];rfl
 obtain⟨hbk,hpk,hlen,hlg⟩:=pk_all hnp hp;obtain⟨hln,ho,hsq,hlt⟩:=netP_all hnp;obtain⟨l1,l2,l3,l4⟩:=hln;rw[hs,hi];by_cases c:64<(out.length:Int)
 ·have ef:finP out=([],false):=by unfold finP;rw[if_pos c]
  rw[ef];rfl
 have ef:finP out=(out,true):=by unfold finP;rw[if_neg c]
 rw[ef];simp only[Option.bind_some];rw[show(true ^^ (true==true))=false from rfl,cond_false,Bool.not_true,cond_false];refine loop_upto n.2.1.length (fun k=>(((rmP n k:Nat):Int),(k:Int))) (fun k hk=> ?_) ?_
 ·have hr:=rmP_le n k;have hrs:rmP n (k+1)=if(sqAt n.2.1 k).1=1 then rmP n k+1 else rmP n k:=rfl
  try dsimp only
  rw[dt (show(k:Int)<(n.2.1.length:Int)by omega),cond_true,gin_nat hk,(sq_get hk).1];simp only[Option.bind_some];by_cases c1:(sqAt n.2.1 k).1=1
  ·rw[if_pos c1]at hrs;rw[dt c1,show laws_btoi true=some 1 from rfl,hrs];simp only[Option.bind_some];rw[wrap_ok (z:=((rmP n k:Nat):Int)+1) (by omega),wrap_ok (z:=(k:Int)+1) (by omega)];rfl
  ·rw[if_neg c1]at hrs;rw[df c1,show laws_btoi false=some 0 from rfl,hrs];simp only[Option.bind_some];rw[wrap_ok (z:=((rmP n k:Nat):Int)+0) (by omega),wrap_ok (z:=(k:Int)+1) (by omega),Int.add_zero];rfl
 try dsimp only
 rw[df (show ¬(n.2.1.length:Int)<(n.2.1.length:Int)by omega),cond_false];refine mapS ?_
 have hrt:=rmP_le n n.2.1.length;refine loop_upto out.length (fun k=>(((lgc (out.take k):Nat):Int),(k:Int))) (fun k hk=> ?_) ?_
 ·obtain⟨g1,g2⟩:=bk_get hk;have hb1:=hbk _ g2;obtain⟨q1,q2,q3⟩:=bk_lens hnp hb1;have hitem:itemP n (bkAt out k)=true:=by unfold bkOk at hb1;rw[Bool.and_eq_true]at hb1;exact hb1.1
  have hblk:blkP n (bkAt out k)=true:=by unfold blkP;rw[hnp,Bool.true_and];exact hb1
  have hc:lgc (out.take k)<=k:=by
   have:=List.countP_le_length (p:=fun b:Blk=>decide (b.1=3)) (l:=out.take k);unfold lgc;rw[List.length_take]at this;omega
  have hs1:lgc (out.take (k+1))=lgc (out.take k)+if(bkAt out k).1=3 then 1 else 0:=by
   have e1:out[k]=bkAt out k:=by unfold bkAt;rw[List.getD,List.getElem?_eq_getElem hk];rfl
   unfold lgc;rw[take_succ' out k hk,List.countP_append,e1];simp only[List.countP_singleton,decide_eq_true_eq]
  have hgin:gin out.length (k:Int)=some ():=gin_nat hk;generalize bkAt out k=b at*
  try dsimp only
  rw[dt (show(k:Int)<(out.length:Int)by omega),cond_true,hgin,g1];simp only[Option.bind_some];rw[blk_impl n b hn (by omega),hblk];simp only[Option.bind_some];rw[Bool.not_true,cond_false,pinNodes_impl n b hn (by omega),hnp,hitem,if_pos (show(true && true)=true from rfl)];simp only[Option.bind_some];rw[df (show ¬5<((pinN n b).length:Int)by omega),cond_false,outN_impl n b hn (by omega),hnp,hitem,if_pos (show(true && true)=true from rfl)];simp only[Option.bind_some];rw[df (show ¬2<((outN n b).length:Int)by omega),cond_false,hs1];by_cases c3:b.1=3
  ·rw[dt c3,show laws_btoi true=some 1 from rfl,if_pos c3];simp only[Option.bind_some];rw[wrap_ok (z:=((lgc (out.take k):Nat):Int)+1) (by omega),wrap_ok (z:=(k:Int)+1) (by omega)];rfl
  ·rw[df c3,show laws_btoi false=some 0 from rfl,if_neg c3];simp only[Option.bind_some];rw[wrap_ok (z:=((lgc (out.take k):Nat):Int)+0) (by omega),wrap_ok (z:=(k:Int)+1) (by omega),Int.add_zero];rfl
 try dsimp only
 have hbs:BksB out:=⟨by omega,fun b hb=>by
  have:=(bk_lens hnp (hbk b hb)).2.2;unfold BkB;omega⟩
 rw[df (show ¬(out.length:Int)<(out.length:Int)by omega),cond_false,List.take_length,pack_impl n out hn hbs,hpk (by omega)];simp only[Option.bind_some];rw[cond_true,wrap_ok (z:=n.1+(n.2.2.2.length:Int)) (by omega),wrap_ok (z:=n.1+(n.2.2.2.length:Int)+((rmP n n.2.1.length:Nat):Int)) (by omega),wrap_ok (z:=n.1+(n.2.2.2.length:Int)+((rmP n n.2.1.length:Nat):Int)+((lgc out:Nat):Int)) (by omega),dt (show(out.length:Int)=n.1+(n.2.2.2.length:Int)+((rmP n n.2.1.length:Nat):Int)+((lgc out:Nat):Int)by omega),cond_true,wrap_ok (z:=(n.2.2.1.length:Int)+(n.2.1.length:Int)) (by omega),wrap_ok (z:=(n.2.2.1.length:Int)+(n.2.1.length:Int) - ((rmP n n.2.1.length:Nat):Int)) (by omega),dt (by omega)];rfl
end Go.Pf
