/-
  Own work. Logic elements, plainly: when they are well formed, their output, their inputs.
-/
import Derived.Test.YtjpkedhcbnklmaaNtb
import Derived.Test.YtjpkedhcbnklmaaSrt
namespace Go.Pf
open Go Go.Pu
set_option linter.unusedVariables false
abbrev Le:=Int×Int
def leOk (n:Net) (e:Le):Prop:=
  ((-1<=e.1/\e.1<=(n.2.2.1.length:Int) - 1)/\(-1<=e.2/\e.2<=(n.2.1.length:Int) - 1)/\¬(e.1<0/\e.2<0))/\
  (0<=e.2->(sqAt n.2.1 e.2.toNat).1=0)/\(0<=e.1->0<=e.2->nsAt (sqAt n.2.1 e.2.toNat).2.2 0=fstP n+e.1/\nsAt (usesP n) (fstP n+e.1).toNat=1)
instance (n:Net) (e:Le):Decidable (leOk n e):=by unfold leOk;exact inferInstance
theorem le_spec {n:Net} (hb:NetB n) (h:netP n=true) (e:Le):spec_l28Le (n,e)=some (decide (leOk n e)):=by
  obtain ⟨hl,ho,hs,ht⟩:=netP_all h
  have hv:=lnV_le hl
  have hul:=usesP_len n
  have hl2:=hl.2.1
  have hl3:=hl.2.2.1
  obtain ⟨l,s⟩:=e
  unfold spec_l28Le
  try dsimp only
  rw [wrap_ok (z:=(n.2.2.1.length:Int) - 1) (by omega),wrap_ok (z:=(n.2.1.length:Int) - 1) (by omega),inR_spec,inR_spec]
  simp only [Option.bind_some]
  by_cases c1: -1<=l/\l<=(n.2.2.1.length:Int) - 1
  rotate_left
  · rw [df c1,df (show ¬leOk n (l,s) from fun e=>c1 e.1.1)];rfl
  rw [dt c1,Bool.not_true,cond_false]
  by_cases c2: -1<=s/\s<=(n.2.1.length:Int) - 1
  rotate_left
  · rw [df c2,df (show ¬leOk n (l,s) from fun e=>c2 e.1.2.1)];rfl
  rw [dt c2,Bool.not_true,cond_false]
  by_cases c3:s<0
  · rw [dt c3,df (show ¬0<=s by omega)]
    by_cases c4:l<0
    · rw [dt c4,df (show ¬leOk n (l,s) from fun e=>e.1.2.2 ⟨c4,c3⟩)];rfl
    · rw [df c4,dt (show leOk n (l,s) from ⟨⟨c1,c2,fun e=>c4 e.1⟩,fun e=>absurd e (by simp only;omega),fun _ e=>absurd e (by simp only;omega)⟩)];rfl
  · obtain ⟨m,rfl⟩:∃m:Nat,s=(m:Int):=⟨s.toNat,by omega⟩
    have hm:m<n.2.1.length:=by omega
    obtain ⟨g1,g2⟩:=sq_get hm
    have hsm:=(hs m hm).1
    rw [df c3,dt (show 0<=(m:Int) by omega),cond_true,g1]
    simp only [Option.bind_some]
    have pre:∀X:Option Bool,joinO ((bif decide (l<0) then (bif false then (Option.map Sum.inr (some false)) else some (.inl ())) else some (.inl ())):Option (Unit⊕Bool)) (fun _=>X)=X:=by
      intro X
      cases decide (l<0)<;>rfl
    rw [pre]
    by_cases c5:(sqAt n.2.1 m).1≠0
    · rw [dt c5,df (show ¬leOk n (l,(m:Int)) from fun e=>c5 (by have:=e.2.1 (by simp only;omega);simp only [Int.toNat_natCast] at this;exact this))];rfl
    have c5:(sqAt n.2.1 m).1=0:=Decidable.byContradiction c5
    rw [df (fun e=>e c5),cond_false]
    by_cases c6:l<0
    · rw [dt c6,dt (show leOk n (l,(m:Int)) from ⟨⟨c1,c2,fun e=>c3 e.2⟩,fun _=>by simp only [Int.toNat_natCast];exact c5,fun e=>absurd e (by simp only;omega)⟩)];rfl
    rw [df c6,cond_false,cond_false,fst_spec hl]
    have hlen:(sqAt n.2.1 m).2.2.length=1:=by rcases hsm with q | q<;>omega
    have g0:gget 0 (sqAt n.2.1 m).2.2 0=some (nsAt (sqAt n.2.1 m).2.2 0):=nsAt_get (show 0<(sqAt n.2.1 m).2.2.length by omega)
    simp only [Option.bind_some]
    rw [g0,wrap_ok (z:=fstP n+l) (by omega)]
    simp only [Option.bind_some]
    by_cases c7:nsAt (sqAt n.2.1 m).2.2 0=fstP n+l
    · have hfl:fstP n+l<lnV n:=by unfold lnV;omega
      rw [dt c7,cond_true,uses_spec hb h]
      simp only [Option.bind_some]
      rw [gin_some (by omega) (by omega),gget_ns (by omega) (by omega)]
      simp only [Option.bind_some]
      congr 1
      rw [decide_eq_decide]
      exact ⟨fun e=>⟨⟨c1,c2,fun q=>c3 q.2⟩,fun _=>by simp only [Int.toNat_natCast];exact c5,fun _ _=>by simp only [Int.toNat_natCast];exact ⟨c7,e⟩⟩,fun e=>(e.2.2 (by simp only;omega) (by simp only;omega)).2⟩
    · rw [df c7,df (show ¬leOk n (l,(m:Int)) from fun e=>c7 (by have:=(e.2.2 (by simp only;omega) (by simp only;omega)).1;simp only [Int.toNat_natCast] at this;exact this))];rfl
def lokP (n:Net) (e:Le):Bool:=netP n && decide (leOk n e)
def outLe (n:Net) (e:Le):Int:=if 0<=e.2 then 1+n.1+e.2 else fstP n+e.1
theorem outLe_r {n:Net} (hl:lnOk n) {e:Le} (h:leOk n e):1<=outLe n e/\outLe n e<lnV n:=by
  obtain ⟨⟨h1,h2,h3⟩,_⟩:=h
  have h0:=hl.1
  unfold outLe lnV fstP
  split<;>omega
theorem out_spec {n:Net} (hl:lnOk n) {e:Le} (h:leOk n e):spec_l28Out (n,e)=some (outLe n e):=by
  obtain ⟨⟨h1,h2,h3⟩,_⟩:=h
  have h0:=hl.1
  have hl2:=hl.2.1
  have hl3:=hl.2.2.1
  have hv:=lnV_le hl
  unfold spec_l28Out outLe
  try dsimp only
  by_cases c:0<=e.2
  · rw [dt c,cond_true,if_pos c,wrap_ok (z:=1+n.1) (by omega),wrap_ok (by omega)]
  · rw [df c,cond_false,if_neg c,fst_spec hl]
    simp only [Option.bind_some]
    rw [wrap_ok (by omega)]
theorem out_impl {n:Net} (hl:lnOk n) {e:Le} (h:leOk n e):impl_leOutput (n,e)=some (outLe n e):=out_spec hl h
def setP (xs ex:List Int):List Int:=insL [] (xs.filter fun x=>decide (0<x/\x∉ex))
theorem setP_mem {xs ex:List Int} {y:Int}:y∈setP xs ex↔y∈xs/\0<y/\y∉ex:=by
  unfold setP;rw [mem_insL,List.mem_filter];simp
theorem setP_len (xs ex:List Int):(setP xs ex).length<=xs.length:=by
  have h1:=insL_len [] (xs.filter fun x=>decide (0<x/\x∉ex))
  have h2:=List.length_filter_le (fun x=>decide (0<x/\x∉ex)) xs
  unfold setP
  simp only [List.length_nil] at h1;omega
theorem set28_spec (xs ex:List Int) (hl:xs.length<=100000000) (hex:ex.length<=100000000):spec_l28Set (xs,ex)=some (setP xs ex):=by
  obtain ⟨o,s1,s2,s3⟩:=sort_spec xs (by omega)
  have hol:=s2.length_eq
  unfold spec_l28Set
  rw [s1]
  simp only [Option.bind_some]
  have key:∀X:Option (List Int),(∃r,X=some r/\(Asc r/\∀y,y∈r↔y∈o/\0<y/\y∉ex))->X=some (setP xs ex):=by
    rintro X ⟨r,h1,h2,h3⟩
    rw [h1]
    congr 1
    have hs:Asc (setP xs ex):=asc_insL asc_nil
    exact asc_ext h2 hs (fun y=>by rw [h3,setP_mem,s2.mem_iff])
  refine key _ ?_
  refine loop_spec (fun s:Int×List Int=>(0<=s.1/\s.1<=(o.length:Int))/\Asc s.2/\(s.2.length:Int)<=s.1/\∀y,y∈s.2↔y∈o.take s.1.toNat/\0<y/\y∉ex) _ (fun s=>(o.length - s.1).toNat) (fun s hI=> ?_) (0,[]) ⟨⟨by simp,by simp⟩,asc_nil,by simp,fun y=>by simp⟩
  obtain ⟨i,acc⟩:=s
  obtain ⟨⟨i0,i1⟩,hA,hAl,hm⟩:=hI
  simp only at i0 i1 hA hAl hm
  try dsimp only
  by_cases hi:i<(o.length:Int)
  rotate_left
  · right
    rw [df hi,cond_false]
    refine ⟨acc,rfl,hA,fun y=> ?_⟩
    rw [hm,List.take_of_length_le (by omega)]
  left
  obtain ⟨k,rfl⟩:∃k:Nat,i=(k:Int):=⟨i.toNat,by omega⟩
  have hk:k<o.length:=by omega
  have hsucc:((k:Int)+1).toNat=k+1:=by omega
  rw [Int.toNat_natCast] at hm
  rw [dt hi,cond_true,gin_nat hk,nsAt_get hk,wrap_ok (z:=(k:Int)+1) (by omega)]
  simp only [Option.bind_some]
  have hle:∀y∈o.take k,y<=nsAt o k:=by
    intro y hy
    obtain ⟨j,hj,rfl⟩:=List.getElem_of_mem hy
    rw [List.length_take] at hj
    rw [List.getElem_take,<-ns_at hk]
    exact List.pairwise_iff_getElem.1 s3 j k (by omega) hk (by omega)
  generalize hv:nsAt o k=v at*
  have skip:¬(0<v/\v∉ex)->∀y,y∈acc↔y∈o.take (k+1)/\0<y/\y∉ex:=by
    intro hno y
    rw [hm,take_at hk,hv,List.mem_append,List.mem_singleton]
    constructor
    · rintro ⟨q1,q2⟩;exact ⟨Or.inl q1,q2⟩
    · rintro ⟨q1 | q1,q2⟩
      · exact ⟨q1,q2⟩
      · subst q1;exact absurd q2 hno
  by_cases c1:0<v
  rotate_left
  · rw [df c1,cond_false]
    exact ⟨_,rfl,⟨⟨by simp only;omega,by simp only;omega⟩,hA,by simp only;omega,by simp only;rw [hsucc];exact skip (fun e=>c1 e.1)⟩,by simp only;omega⟩
  rw [dt c1,cond_true,has_spec _ _ (by omega)]
  simp only [Option.bind_some]
  by_cases c2:v∈ex
  · rw [dt c2,Bool.not_true,cond_false]
    exact ⟨_,rfl,⟨⟨by simp only;omega,by simp only;omega⟩,hA,by simp only;omega,by simp only;rw [hsucc];exact skip (fun e=>e.2 c2)⟩,by simp only;omega⟩
  rw [df c2,Bool.not_false,cond_true]
  have add:(∀y∈acc,y<v)->Asc (acc++[v])/\∀y,y∈acc++[v]↔y∈o.take (k+1)/\0<y/\y∉ex:=by
    intro hlt
    refine ⟨?_,fun y=> ?_⟩
    · unfold Asc
      rw [List.pairwise_append]
      exact ⟨hA,by simp,fun x hx y hy=>by rw [List.mem_singleton.1 hy];exact hlt x hx⟩
    · rw [take_at hk,hv,List.mem_append,List.mem_append,hm,List.mem_singleton]
      constructor
      · rintro (⟨q1,q2⟩ | q)
        · exact ⟨Or.inl q1,q2⟩
        · subst q;exact ⟨Or.inr rfl,c1,c2⟩
      · rintro ⟨q1 | q1,q2⟩
        · exact Or.inl ⟨q1,q2⟩
        · exact Or.inr q1
  by_cases c3:(acc.length:Int)=0
  · have hnil:acc=[]:=List.length_eq_zero_iff.1 (by omega)
    obtain ⟨a1,a2⟩:=add (by rw [hnil];simp)
    rw [dt c3,cond_true,gapp_ok (by simp;omega)]
    simp only [Option.bind_some]
    exact ⟨_,rfl,⟨⟨by simp only;omega,by simp only;omega⟩,a1,by simp only [List.length_append,List.length_cons,List.length_nil];omega,by simp only;rw [hsucc];exact a2⟩,by simp only;omega⟩
  rw [df c3,cond_false,wrap_ok (z:=(acc.length:Int) - 1) (by omega)]
  have el:(acc.length:Int) - 1=((acc.length - 1:Nat):Int):=by omega
  have hlast:acc.length - 1<acc.length:=by omega
  rw [el,gin_nat hlast,nsAt_get hlast]
  simp only [Option.bind_some]
  have hmax:∀y∈acc,y<=nsAt acc (acc.length - 1):=by
    intro y hy
    obtain ⟨j,hj,rfl⟩:=List.getElem_of_mem hy
    rw [<-ns_at hlast]
    by_cases q:j=acc.length - 1
    · subst q;exact Int.le_refl _
    · exact Int.le_of_lt (List.pairwise_iff_getElem.1 hA j (acc.length - 1) hj hlast (by omega))
  have hlm:nsAt acc (acc.length - 1)∈acc:=by rw [<-ns_at hlast];exact List.getElem_mem hlast
  have hlv:=hle _ ((hm _).1 hlm).1
  by_cases c4:nsAt acc (acc.length - 1)≠v
  · obtain ⟨a1,a2⟩:=add (fun y hy=>by have:=hmax y hy;omega)
    rw [dt c4,cond_true,gapp_ok (by simp;omega)]
    simp only [Option.bind_some]
    exact ⟨_,rfl,⟨⟨by simp only;omega,by simp only;omega⟩,a1,by simp only [List.length_append,List.length_cons,List.length_nil];omega,by simp only;rw [hsucc];exact a2⟩,by simp only;omega⟩
  · have c4:nsAt acc (acc.length - 1)=v:=Decidable.byContradiction c4
    rw [df (fun e=>e c4),cond_false]
    refine ⟨_,rfl,⟨⟨by simp only;omega,by simp only;omega⟩,hA,by simp only;omega,fun y=> ?_⟩,by simp only;omega⟩
    simp only
    rw [hsucc,take_at hk,hv,List.mem_append,List.mem_singleton,hm]
    constructor
    · rintro ⟨q1,q2⟩;exact ⟨Or.inl q1,q2⟩
    · rintro ⟨q1 | q1,q2⟩
      · exact ⟨q1,q2⟩
      · subst q1
        rw [c4] at hlm
        exact (hm _).1 hlm
def insX (n:Net) (e:Le):List Int:=if 0<=e.1 then (ltAt n.2.2.1 e.1.toNat).1 else (sqAt n.2.1 e.2.toNat).2.2
def insLe (n:Net) (e:Le):List Int:=setP (insX n e) []
theorem insX_ok {n:Net} (h:netP n=true) {e:Le} (he:leOk n e):(insX n e).length<=4/\∀x∈insX n e,0<=x/\x<lnV n:=by
  obtain ⟨hl,ho,hs,ht⟩:=netP_all h
  obtain ⟨⟨h1,h2,h3⟩,_⟩:=he
  unfold insX
  by_cases c:0<=e.1
  · rw [if_pos c]
    have hk:e.1.toNat<n.2.2.1.length:=by omega
    obtain ⟨t1,t2⟩:=ht _ hk
    have t3:=t1.1
    refine ⟨by omega,fun x hx=> ?_⟩
    have:=belowP_mem t2 x hx
    unfold lnV;omega
  · rw [if_neg c]
    have hk:e.2.toNat<n.2.1.length:=by omega
    obtain ⟨t1,t2⟩:=hs _ hk
    refine ⟨by rcases t1 with q | q<;>omega,belowP_mem t2⟩
theorem insLe_len {n:Net} (h:netP n=true) {e:Le} (he:leOk n e):(insLe n e).length<=4:=by
  have h1:=(insX_ok h he).1
  have h2:=setP_len (insX n e) []
  unfold insLe;omega
theorem ins_spec {n:Net} (h:netP n=true) {e:Le} (he:leOk n e):spec_l28Ins (n,e)=some (insLe n e):=by
  have hx:=(insX_ok h he).1
  have he' :=he
  obtain ⟨⟨h1,h2,h3⟩,_⟩:=he'
  unfold spec_l28Ins insLe
  unfold insX at*
  try dsimp only
  by_cases c:0<=e.1
  · rw [if_pos c] at hx ⊢
    have hk:e.1.toNat<n.2.2.1.length:=by omega
    obtain ⟨g1,g2⟩:=lt_get hk
    have e1:((e.1.toNat:Nat):Int)=e.1:=by omega
    rw [e1] at g1
    rw [dt c,cond_true,g1]
    simp only [Option.bind_some]
    rw [set28_spec _ _ (by omega) (by simp)];rfl
  · rw [if_neg c] at hx ⊢
    have hk:e.2.toNat<n.2.1.length:=by omega
    obtain ⟨g1,g2⟩:=sq_get hk
    have e1:((e.2.toNat:Nat):Int)=e.2:=by omega
    rw [e1] at g1
    rw [df c,cond_false,g1]
    simp only [Option.bind_some]
    rw [set28_spec _ _ (by omega) (by simp)];rfl
theorem filt_insL (xs:List Int) (hx:∀x∈xs,0<=x):insL [] (xs.filter fun x=>decide (x≠0))=setP xs []:=by
  unfold setP
  congr 1
  apply List.filter_congr
  intro x hm
  have:=hx x hm
  rw [decide_eq_decide]
  constructor
  · intro q;exact ⟨by omega,by simp⟩
  · intro q;omega
theorem ins_impl {n:Net} (h:netP n=true) {e:Le} (he:leOk n e):impl_leInputs (n,e)=some (insLe n e):=by
  obtain ⟨hx,hxr⟩:=insX_ok h he
  have he' :=he
  obtain ⟨⟨h1,h2,h3⟩,_⟩:=he'
  unfold impl_leInputs insLe
  have hj:(bif decide (0<=e.1) then (
      (gget (([],0):Lut) n.2.2.1 e.1).bind fun v2=>
      some (.inl v2.1)) else
    (gget ((0,(0,[])):Seq) n.2.1 e.2).bind fun v2=>
    some ((.inl v2.2.2):List Int⊕List Int))=some (.inl (insX n e)):=by
    unfold insX
    by_cases c:0<=e.1
    · have hk:e.1.toNat<n.2.2.1.length:=by omega
      obtain ⟨g1,g2⟩:=lt_get hk
      have e1:((e.1.toNat:Nat):Int)=e.1:=by omega
      rw [e1] at g1
      rw [dt c,cond_true,g1,if_pos c];rfl
    · have hk:e.2.toNat<n.2.1.length:=by omega
      obtain ⟨g1,g2⟩:=sq_get hk
      have e1:((e.2.toNat:Nat):Int)=e.2:=by omega
      rw [e1] at g1
      rw [df c,cond_false,g1,if_neg c];rfl
  try dsimp only
  rw [hj,joinO_inl,<-filt_insL _ (fun x hm=>(hxr x hm).1)]
  generalize insX n e=xs at*
  try dsimp only
  refine loop_upto xs.length (fun k=>(insL [] ((xs.take k).filter fun x=>decide (x≠0)),(k:Int))) (fun k hk=> ?_) ?_
  · have hil:=insL_len [] ((xs.take k).filter fun x=>decide (x≠0))
    have hfl:=List.length_filter_le (fun x=>decide (x≠0)) (xs.take k)
    rw [List.length_take] at hfl
    simp only [List.length_nil] at hil
    try dsimp only
    rw [dt (show (k:Int)<(xs.length:Int) by omega),cond_true,nsAt_get hk]
    simp only [Option.bind_some]
    rw [take_at hk,List.filter_append,insL_app,wrap_ok (by omega)]
    by_cases c:nsAt xs k≠0
    · rw [dt c,cond_true,insert_impl _ _ (by omega)]
      simp only [Option.bind_some]
      have ef:[nsAt xs k].filter (fun x=>decide (x≠0))=[nsAt xs k]:=by simp [c]
      rw [ef,insL_one];rfl
    · have c:nsAt xs k=0:=Decidable.byContradiction c
      rw [df (fun e=>e c),cond_false]
      have ef:[nsAt xs k].filter (fun x=>decide (x≠0))=[]:=by simp [c]
      rw [ef,insL_nil];rfl
  · try dsimp only
    rw [df (by omega),cond_false,List.take_of_length_le (Nat.le_refl _)];rfl
def lins (n:Net) (e:Le):List Int:=if lokP n e=true then insLe n e else []
end Go.Pf
