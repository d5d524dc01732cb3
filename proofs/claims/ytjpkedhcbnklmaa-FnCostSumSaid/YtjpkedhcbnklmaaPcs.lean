/-
  Own work. Packing, plainly: the reference's loop.
-/
import Derived.Test.YtjpkedhcbnklmaaPcl
namespace Go.Pf
open Go Go.Pu
set_option linter.unusedVariables false
def lft (N:Nat) (U:List Bool) (i:Nat):List Nat:=(List.range' i (N - i)).filter fun j=> !bAt U j
theorem lft_end (N:Nat) (U:List Bool):lft N U N=[]:=by unfold lft;rw [Nat.sub_self];rfl
theorem lft_cons {N i:Nat} (h:i<N) (U:List Bool):lft N U i=if bAt U i=true then lft N U (i+1) else i::lft N U (i+1):=by
  unfold lft
  rw [show N - i=(N - (i+1))+1 by omega,List.range'_succ,List.filter_cons]
  cases bAt U i<;>rfl
theorem lft_mem {N i:Nat} {U:List Bool} {j:Nat} (h:j∈lft N U i):i<=j/\j<N/\bAt U j=false:=by
  unfold lft at h
  rw [List.mem_filter,List.mem_range'_1] at h
  obtain ⟨h1,h2⟩:=h
  refine ⟨by omega,by omega,by simpa using h2⟩
theorem lft_len (N:Nat) (U:List Bool) (i:Nat):(lft N U i).length<=N - i:=by
  unfold lft
  exact Nat.le_trans (List.length_filter_le _ _) (by rw [List.length_range'];exact Nat.le_refl _)
theorem filt_ne:∀(I:List Nat) (b:Nat) (h:b<I.length),I.Nodup->I.filter (fun j=> !(j==I[b]))=I.take b++I.drop (b+1)
  | [],b,h,_=>by simp at h
  | x::xs,0,h,hn=>by
    rw [List.nodup_cons] at hn
    rw [List.filter_cons,if_neg (by simp)]
    show xs.filter (fun j=> !(j==x))=[]++xs
    rw [List.nil_append]
    refine List.filter_eq_self.2 fun a ha=> ?_
    have:a≠x:=fun e=>hn.1 (by rw [<-e];exact ha)
    simp [this]
  | x::xs,b+1,h,hn=>by
    rw [List.nodup_cons] at hn
    have hb:b<xs.length:=by simpa using h
    have hx:x≠xs[b]:=fun e=>hn.1 (by rw [e];exact List.getElem_mem hb)
    rw [List.filter_cons,if_pos (by simpa using hx)]
    show x::xs.filter (fun j=> !(j==xs[b]))=x::(xs.take b++xs.drop (b+1))
    rw [filt_ne xs b hb hn.2]
theorem bAt_set {U:List Bool} {a:Nat} (h:a<U.length) (j:Nat):bAt (U.set a true) j=if j=a then true else bAt U j:=by
  unfold bAt
  rw [List.getD,List.getD,List.getElem?_set]
  by_cases c:a=j
  · subst c;simp [h]
  · rw [if_neg c,if_neg (fun e=>c e.symm)]
theorem lft_set {N i:Nat} {U:List Bool} (hU:U.length=N) {b:Nat} (hb:b<(lft N U i).length):lft N (U.set ((lft N U i).getD b 0) true) i=(lft N U i).take b++(lft N U i).drop (b+1):=by
  have hn:(lft N U i).Nodup:=List.Pairwise.sublist List.filter_sublist (List.nodup_range' (s:=i) (n:=N - i))
  have e:(lft N U i).getD b 0=(lft N U i)[b]:=by rw [List.getD,List.getElem?_eq_getElem hb];rfl
  rw [<-filt_ne _ b hb hn,e]
  have ha:=(lft_mem (List.getElem_mem hb)).2.1
  generalize (lft N U i)[b]=a at*
  unfold lft
  rw [List.filter_filter]
  refine List.filter_congr fun j hj=> ?_
  rw [bAt_set (by omega)]
  by_cases c:j=a
  · subst c;simp
  · rw [if_neg c];simp [c]
def cntF (U:List Bool) (i t:Nat):Nat:=((List.range' i t).filter fun j=> !bAt U j).length
theorem cntF_succ (U:List Bool) (i t:Nat):cntF U i (t+1)=if bAt U (i+t)=true then cntF U i t else cntF U i t+1:=by
  unfold cntF
  rw [List.range'_concat,List.filter_append,List.length_append,Nat.one_mul]
  cases h:bAt U (i+t)<;>simp [h]
theorem lft_at {N i t:Nat} (U:List Bool) (h:i+t<N) (hf:bAt U (i+t)=false):cntF U i t<(lft N U i).length/\(lft N U i).getD (cntF U i t) 0=i+t:=by
  have e:lft N U i=((List.range' i t).filter fun j=> !bAt U j)++((i+t)::lft N U (i+t+1)):=by
    have h1:=lft_cons (N:=N) (i:=i+t) h U
    rw [if_neg (by simp [hf])] at h1
    rw [<-h1]
    unfold lft
    rw [<-List.filter_append,show N - i=t+(N - (i+t)) by omega,<-List.range'_append,Nat.one_mul]
  have e2:cntF U i t=((List.range' i t).filter fun j=> !bAt U j).length:=rfl
  rw [e,e2]
  refine ⟨by rw [List.length_append,List.length_cons];omega,?_⟩
  rw [List.getD,List.getElem?_append_right (Nat.le_refl _),Nat.sub_self];rfl
def absI (I:List Nat) (b:Int):Int:=if b<0 then -1 else ((I.getD b.toNat 0:Nat):Int)
theorem leAt_map (les:List Le) {I:List Nat} {k:Nat} (h:k<I.length):leAt (I.map (leAt les)) k=leAt les (I.getD k 0):=by
  rw [show leAt (I.map (leAt les)) k=(I.map (leAt les)).getD k (0,0) from rfl,List.getD,List.getElem?_map,List.getD,List.getElem?_eq_getElem h];rfl
noncomputable def pkG (v0:Net) (v11:List Le):(Int×(List Blk×List Bool))->Option ((Int×(List Blk×List Bool))⊕(List Blk×Bool)):=(fun (v14:(Int×(List (Int×(Int×List (Int×Int)))×List Bool)))=>
                let v15:Int:=((v11).length:Int)
                let v16:Bool:=decide (v14.1<v15)
                bif v16 then (
                  (gin (v14.2.2).length v14.1).bind fun _=>
                  (gget false v14.2.2 v14.1).bind fun v18=>
                  bif v18 then (
                    let v19:Int:=wrap .i64 (v14.1+1)
                    some (.inl (v19,v14.2))) else
                  let v19:Int:=((v14.2.1).length:Int)
                  let v20:Bool:=decide (v19=64)
                  bif v20 then (
                    Option.map Sum.inr (
                      some (([]:List (Int×(Int×List (Int×Int)))),false))) else
                  let v21:Int:=wrap .i64 (v14.1+1)
                  Pu.loop (fun (v22:(Int×(Int×Int)))=>
                    let v23:Int:=((v11).length:Int)
                    let v24:Bool:=decide (v22.1<v23)
                    bif v24 then (
                      (gin (v14.2.2).length v22.1).bind fun _=>
                      (gget false v14.2.2 v22.1).bind fun v26=>
                      bif v26 then (
                        let v27:Int:=wrap .i64 (v22.1+1)
                        some (.inl (v27,v22.2))) else
                      (gin (v11).length v14.1).bind fun _=>
                      (gget (0,0) v11 v14.1).bind fun v28=>
                      (gin (v11).length v22.1).bind fun _=>
                      (gget (0,0) v11 v22.1).bind fun v30=>
                      let v31:List (Int×Int):=[v28,v30]
                      (spec_l28Pins (v0,v31)).bind fun v32=>
                      let v33:Int:=((v32).length:Int)
                      let v34:Bool:=decide (5<v33)
                      bif v34 then (
                        let v35:Int:=wrap .i64 (v22.1+1)
                        some (.inl (v35,v22.2))) else
                      (gin (v11).length v14.1).bind fun _=>
                      (gget (0,0) v11 v14.1).bind fun v36=>
                      (gin (v11).length v22.1).bind fun _=>
                      (gget (0,0) v11 v22.1).bind fun v38=>
                      (spec_l28Common (v0,(v36,v38))).bind fun v39=>
                      let v40:Bool:=decide (v22.2.2<v39)
                      bif v40 then (
                        let v41:Int:=wrap .i64 (v22.1+1)
                        some (.inl (v41,(v22.1,v39)))) else
                      let v41:Int:=wrap .i64 (v22.1+1)
                      some (.inl (v41,v22.2))) else
                    Option.map Sum.inr (
                      (gin (v11).length v14.1).bind fun _=>
                      (gget (0,0) v11 v14.1).bind fun v26=>
                      let v27:List (Int×Int):=[v26]
                      let v28:Bool:=decide (0<=v22.2.1)
                      bif v28 then (
                        (gin (v11).length v22.2.1).bind fun _=>
                        (gget (0,0) v11 v22.2.1).bind fun v30=>
                        let v31:List (Int×Int):=[v30]
                        (gapp 16 v27 v31).bind fun v32=>
                        (gin (v14.2.2).length v22.2.1).bind fun _=>
                        (gget false v14.2.2 v22.2.1).bind fun v34=>
                        let v35:Bool:=true
                        let v36:List Bool:=gset v14.2.2 v22.2.1 v35
                        let v37:List (Int×(Int×List (Int×Int))):=[(3,(0,v32))]
                        (gapp 40 v14.2.1 v37).bind fun v38=>
                        let v39:Int:=wrap .i64 (v14.1+1)
                        some (.inl (v39,(v38,v36)))) else
                      let v29:List (Int×(Int×List (Int×Int))):=[(3,(0,v27))]
                      (gapp 40 v14.2.1 v29).bind fun v30=>
                      let v31:Int:=wrap .i64 (v14.1+1)
                      some (.inl (v31,(v30,v14.2.2))))) (v21,((-1),(-1)))) else
                Option.map Sum.inr (
                  let v17:Int:=((v14.2.1).length:Int)
                  let v18:Bool:=decide (v17<=64)
                  some (v14.2.1,v18)))
theorem pkG_scan {n:Net} (hb:NetB n) (hn:netP n=true) (les:List Le) (bs:List Blk) (U:List Bool) (i:Nat) (ho:∀x∈les,leOk n x) (hl:les.length<=1000) (hU:U.length=les.length) (hi:i<les.length) (hf:bAt U i=false) (hbl:bs.length<64) (I:List Nat) (hI:I=lft les.length U (i+1)) (e:Le) (hee:e=leAt les i) (rest:List Le) (hre:rest=I.map (leAt les)):
    pkG n les ((i:Int),(bs,U))=some (.inl (if 0<=(scP n e rest rest.length).1 then (((i+1:Nat):Int),(bs++[(3,(0,[e,leAt rest (scP n e rest rest.length).1.toNat]))],U.set (I.getD (scP n e rest rest.length).1.toNat 0) true)) else (((i+1:Nat):Int),(bs++[(3,(0,[e]))],U)))):=by
  have he:leOk n e:=by rw [hee];exact ho _ (leAt_mem hi)
  have hIl:I.length<=les.length - (i+1):=by rw [hI];exact lft_len _ _ _
  have hrl:rest.length=I.length:=by rw [hre,List.length_map]
  have hge:gget ((0,0):Le) les (i:Int)=some e:=by rw [le_get hi,hee]
  have hgi:gin les.length (i:Int)=some ():=gin_nat hi
  unfold pkG
  try dsimp only
  rw [dt (show (i:Int)<(les.length:Int) by omega),cond_true,gin_nat (show i<U.length by omega),bAt_get (by omega),hf]
  simp only [Option.bind_some]
  rw [cond_false,df (show ¬(bs.length:Int)=64 by omega),cond_false,wrap_ok (by omega)]
  have e0:((i:Int)+1,((-1:Int),(-1:Int)))=(fun t:Nat=>(((i+1+t:Nat):Int),(absI I (scP n e rest (cntF U (i+1) t)).1,(scP n e rest (cntF U (i+1) t)).2))) 0:=by
    simp [cntF,scP,absI]
  rw [e0]
  refine loop_upto (les.length - (i+1)) (fun t:Nat=>(((i+1+t:Nat):Int),(absI I (scP n e rest (cntF U (i+1) t)).1,(scP n e rest (cntF U (i+1) t)).2))) (fun t ht=> ?_) ?_
  · have hj:i+1+t<les.length:=by omega
    have hs:=cntF_succ U (i+1) t
    have hw:wrap .i64 (((i+1+t:Nat):Int)+1)=((i+1+(t+1):Nat):Int):=by rw [wrap_ok (by omega)];omega
    try dsimp only
    rw [dt (show ((i+1+t:Nat):Int)<(les.length:Int) by omega),cond_true,gin_nat (show i+1+t<U.length by omega),bAt_get (show i+1+t<U.length by omega)]
    simp only [Option.bind_some]
    cases hu:bAt U (i+1+t) with
    | true=>
      rw [hu,if_pos rfl] at hs
      rw [cond_true,hs,hw]
    | false=>
      rw [hu,if_neg (by simp)] at hs
      obtain ⟨a1,a2⟩:=lft_at U hj hu
      rw [<-hI] at a1 a2
      have hr:leAt rest (cntF U (i+1) t)=leAt les (i+1+t):=by rw [hre,leAt_map les a1,a2]
      have hro:=ho _ (leAt_mem hj)
      have hgj:gget ((0,0):Le) les ((i+1+t:Nat):Int)=some (leAt les (i+1+t)):=le_get hj
      have hgj2:gin les.length ((i+1+t:Nat):Int)=some ():=gin_nat hj
      rw [cond_false,hge,hgj,hgi,hgj2]
      simp only [Option.bind_some]
      rw [pins_spec hb hn (les2 he hro) (by simp)]
      simp only [Option.bind_some]
      rw [hs]
      show _=some (Sum.inl (((i+1+(t+1):Nat):Int),(absI I (if (pinsP n [e,leAt rest (cntF U (i+1) t)]).length<=5/\(scP n e rest (cntF U (i+1) t)).2<com n e (leAt rest (cntF U (i+1) t)) then (((cntF U (i+1) t:Nat):Int),com n e (leAt rest (cntF U (i+1) t))) else scP n e rest (cntF U (i+1) t)).1,(if (pinsP n [e,leAt rest (cntF U (i+1) t)]).length<=5/\(scP n e rest (cntF U (i+1) t)).2<com n e (leAt rest (cntF U (i+1) t)) then (((cntF U (i+1) t:Nat):Int),com n e (leAt rest (cntF U (i+1) t))) else scP n e rest (cntF U (i+1) t)).2)))
      rw [hr]
      by_cases c1:5<((pinsP n [e,leAt les (i+1+t)]).length:Int)
      · rw [dt c1,cond_true,if_neg (fun q=>by omega),hw]
      · rw [df c1,cond_false,com_spec hn he hro]
        simp only [Option.bind_some]
        by_cases c2:(scP n e rest (cntF U (i+1) t)).2<com n e (leAt les (i+1+t))
        · have e1:absI I ((cntF U (i+1) t:Nat):Int)=((i+1+t:Nat):Int):=by
            unfold absI
            rw [if_neg (by omega),Int.toNat_natCast,a2]
          rw [dt c2,cond_true,if_pos ⟨by omega,c2⟩,hw,e1]
        · rw [df c2,cond_false,if_neg (fun q=>c2 q.2),hw]
  · have hc:cntF U (i+1) (les.length - (i+1))=rest.length:=by rw [hrl,hI];rfl
    have hsc:=scP_ok hn he rest rest.length
    rw [hc]
    generalize scP n e rest rest.length=s at*
    have hlen:((i+1+(les.length - (i+1)):Nat):Int)=(les.length:Int):=by omega
    try dsimp only
    rw [hlen,df (show ¬(les.length:Int)<(les.length:Int) by omega),cond_false]
    refine mapS ?_
    rw [hge,hgi]
    simp only [Option.bind_some]
    by_cases c:s.1<0
    · have e1:absI I s.1= -1:=by unfold absI;rw [if_pos c]
      rw [e1,df (show ¬(0:Int)≤-1 by omega),cond_false,if_neg (show ¬0<=s.1 by omega),gapp40 (by simp only [List.length_cons,List.length_nil];omega)];rfl
    · obtain ⟨b,hb'⟩:∃b:Nat,s.1=(b:Int):=⟨s.1.toNat,by omega⟩
      have hbI:b<I.length:=by omega
      have hm:I.getD b 0∈I:=by rw [List.getD,List.getElem?_eq_getElem hbI];exact List.getElem_mem hbI
      have ha:I.getD b 0<les.length:=by
        have q:∀j∈I,j<les.length:=fun j hj=>by rw [hI] at hj;exact (lft_mem hj).2.1
        exact q _ hm
      have hr:leAt rest b=leAt les (I.getD b 0):=by rw [hre,leAt_map les hbI]
      have e1:absI I s.1=((I.getD b 0:Nat):Int):=by unfold absI;rw [if_neg c,hb',Int.toNat_natCast]
      rw [e1,dt (show (0:Int)<=((I.getD b 0:Nat):Int) by omega),cond_true,if_pos (show 0<=s.1 by omega),gin_nat ha,le_get ha,hb',Int.toNat_natCast,hr]
      generalize I.getD b 0=a at*
      simp only [Option.bind_some]
      rw [gapp16l (by simp),gin_nat (show a<U.length by omega),bAt_get (show a<U.length by omega)]
      simp only [Option.bind_some]
      rw [gapp40 (by simp only [List.length_cons,List.length_nil];omega),gset_nat];rfl
theorem pkG_run {n:Net} (hb:NetB n) (hn:netP n=true) (les:List Le) (ho:∀x∈les,leOk n x) (hl:les.length<=1000):∀(m i:Nat) (bs:List Blk) (U:List Bool) (out:List Blk),i+m=les.length->U.length=les.length->bs.length<=64->Packs n bs ((lft les.length U i).map (leAt les)) out->loop (pkG n les) ((i:Int),(bs,U))=some (finP out)
  | 0,i,bs,U,out,hm,hU,hbl,hp=>by
    have e:i=les.length:=by omega
    subst e
    rw [lft_end] at hp
    have eo:out=bs:=by cases hp;rfl
    subst eo
    refine loop_inr ?_
    unfold pkG finP
    try dsimp only
    rw [df (show ¬(les.length:Int)<(les.length:Int) by omega),cond_false,dt (show (out.length:Int)<=64 by omega),if_neg (by omega)];rfl
  | m+1,i,bs,U,out,hm,hU,hbl,hp=>by
    have hi:i<les.length:=by omega
    cases hf:bAt U i with
    | true=>
      rw [lft_cons hi,if_pos hf] at hp
      have hs:pkG n les ((i:Int),(bs,U))=some (.inl (((i+1:Nat):Int),(bs,U))):=by
        unfold pkG
        try dsimp only
        rw [dt (show (i:Int)<(les.length:Int) by omega),cond_true,gin_nat (show i<U.length by omega),bAt_get (by omega),hf]
        simp only [Option.bind_some]
        rw [cond_true,wrap_ok (by omega)];rfl
      rw [loop_inl hs]
      exact pkG_run hb hn les ho hl m (i+1) bs U out (by omega) hU hbl hp
    | false=>
      rw [lft_cons hi,if_neg (by simp [hf])] at hp
      by_cases c64:bs.length=64
      · have hg:=(packs_grow hp).2.1 (by simp)
        refine loop_inr ?_
        unfold pkG finP
        try dsimp only
        rw [dt (show (i:Int)<(les.length:Int) by omega),cond_true,gin_nat (show i<U.length by omega),bAt_get (by omega),hf]
        simp only [Option.bind_some]
        rw [cond_false,dt (show (bs.length:Int)=64 by omega),cond_true,if_pos (by omega)];rfl
      · have hs:=pkG_scan hb hn les bs U i ho hl hU hi hf (by omega) _ rfl _ rfl _ rfl
        rw [List.map_cons] at hp
        generalize hI:lft les.length U (i+1)=I at*
        generalize hre:I.map (leAt les)=rest at*
        have hrl:rest.length=I.length:=by rw [<-hre,List.length_map]
        generalize hee:leAt les i=e at*
        cases hp with
        | two _ _ _ b _ h1 h2 h3=>
          rw [h1,if_pos (by omega),Int.toNat_natCast] at hs
          rw [loop_inl hs]
          refine pkG_run hb hn les ho hl m (i+1) _ _ out (by omega) (by rw [List.length_set];exact hU) (by simp only [List.length_append,List.length_cons,List.length_nil];omega) ?_
          have h4:=lft_set (i:=i+1) hU (b:=b) (by rw [hI];omega)
          rw [hI] at h4
          rw [h4,List.map_append,List.map_take,List.map_drop,hre]
          exact h3
        | one _ _ _ _ h1 h2=>
          rw [if_neg (by omega)] at hs
          rw [loop_inl hs]
          refine pkG_run hb hn les ho hl m (i+1) _ _ out (by omega) hU (by simp only [List.length_append,List.length_cons,List.length_nil];omega) ?_
          rw [hI,hre]
          exact h2
end Go.Pf
