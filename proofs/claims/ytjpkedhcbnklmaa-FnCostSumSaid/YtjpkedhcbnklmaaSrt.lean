/-
  Own work. Sorting and inserting, plainly: the reference's sort and the program's insertion into an ascending list.
-/
import Derived.Test.YtjpkedhcbnklmaaDve
import Derived.Test.YtjpkedhcbnklmaaPla
namespace Go.Pf
open Go Go.Pu
set_option linter.unusedVariables false
theorem joinO_inl {α β:Type} (a:α) (k:α->Option β):joinO (some (.inl a)) k=k a:=rfl
def fm (n:Nat) (g:Nat->List Int):List Int:=(List.range n).flatMap g
def Asc (xs:List Int):Prop:=xs.Pairwise (·<·)
theorem asc_ext {xs ys:List Int} (hx:Asc xs) (hy:Asc ys) (h:∀x,x∈xs↔x∈ys):xs=ys:=by
  induction xs generalizing ys with
  | nil=>
    cases ys with
    | nil=>rfl
    | cons b r=>exact absurd ((h b).2 (by simp)) (by simp)
  | cons a xs ih=>
    cases ys with
    | nil=>exact absurd ((h a).1 (by simp)) (by simp)
    | cons b ys=>
      unfold Asc at hx hy
      rw [List.pairwise_cons] at hx hy
      have e:a=b:=by
        rcases List.mem_cons.1 ((h a).1 (by simp)) with e | e
        · exact e
        rcases List.mem_cons.1 ((h b).2 (by simp)) with e' | e'
        · exact e'.symm
        have:=hy.1 a e
        have:=hx.1 b e'
        omega
      subst e
      congr 1
      refine ih hx.2 hy.2 (fun x=>⟨fun q=> ?_,fun q=> ?_⟩)
      · rcases List.mem_cons.1 ((h x).1 (List.mem_cons_of_mem _ q)) with e | e
        · have:=hx.1 x q;omega
        · exact e
      · rcases List.mem_cons.1 ((h x).2 (List.mem_cons_of_mem _ q)) with e | e
        · have:=hy.1 x q;omega
        · exact e
def ins:List Int->Int->List Int
  | [],x=>[x]
  | a::r,x=>if a<x then a::ins r x else if a=x then a::r else x::a::r
theorem ins_cons (a:Int) (r:List Int) (x:Int):ins (a::r) x=if a<x then a::ins r x else if a=x then a::r else x::a::r:=rfl
theorem mem_ins {l:List Int} {x y:Int}:y∈ins l x↔y=x\/y∈l:=by
  induction l with
  | nil=>simp [ins]
  | cons a r ih=>
    unfold ins
    split
    · simp only [List.mem_cons,ih]
      constructor
      · rintro (e | e | e)
        · exact Or.inr (Or.inl e)
        · exact Or.inl e
        · exact Or.inr (Or.inr e)
      · rintro (e | e | e)
        · exact Or.inr (Or.inl e)
        · exact Or.inl e
        · exact Or.inr (Or.inr e)
    split
    · rename_i e;subst e;simp
    · simp
theorem asc_ins {l:List Int} {x:Int} (h:Asc l):Asc (ins l x):=by
  induction l with
  | nil=>simp [ins,Asc]
  | cons a r ih=>
    unfold Asc at*
    have h' :=h
    rw [List.pairwise_cons] at h
    unfold ins
    split
    · rw [List.pairwise_cons]
      refine ⟨fun y hy=> ?_,ih h.2⟩
      rcases mem_ins.1 hy with e | e
      · omega
      · exact h.1 y e
    split
    · exact h'
    · rw [List.pairwise_cons]
      refine ⟨fun y hy=> ?_,h'⟩
      rcases List.mem_cons.1 hy with e | e
      · omega
      · have:=h.1 y e;omega
theorem ins_len (l:List Int) (x:Int):(ins l x).length<=l.length+1:=by
  induction l with
  | nil=>simp [ins]
  | cons a r ih=>
    unfold ins;split
    · simp only [List.length_cons];omega
    split
    · simp only [List.length_cons];omega
    · simp only [List.length_cons];omega
def insL (l xs:List Int):List Int:=xs.foldl ins l
theorem insL_nil (l:List Int):insL l []=l:=rfl
theorem insL_app (l xs ys:List Int):insL l (xs++ys)=insL (insL l xs) ys:=by unfold insL;rw [List.foldl_append]
theorem insL_one (l:List Int) (x:Int):insL l [x]=ins l x:=rfl
theorem asc_insL {l xs:List Int} (h:Asc l):Asc (insL l xs):=by
  induction xs generalizing l with
  | nil=>exact h
  | cons a r ih=>exact ih (asc_ins h)
theorem mem_insL {l xs:List Int} {y:Int}:y∈insL l xs↔y∈l\/y∈xs:=by
  induction xs generalizing l with
  | nil=>simp [insL]
  | cons a r ih=>
    show y∈insL (ins l a) r↔_
    rw [ih,mem_ins,List.mem_cons]
    constructor
    · rintro ((e | e) | e)
      · exact Or.inr (Or.inl e)
      · exact Or.inl e
      · exact Or.inr (Or.inr e)
    · rintro (e | e | e)
      · exact Or.inl (Or.inr e)
      · exact Or.inl (Or.inl e)
      · exact Or.inr e
theorem insL_len (l xs:List Int):(insL l xs).length<=l.length+xs.length:=by
  induction xs generalizing l with
  | nil=>simp [insL]
  | cons a r ih=>
    have h1:=ih (ins l a)
    have h2:=ins_len l a
    show (insL (ins l a) r).length<=_
    simp only [List.length_cons];omega
theorem asc_nil:Asc []:=List.Pairwise.nil
theorem ins_split {l1 l2:List Int} {x:Int} (h:∀y∈l1,y<x):ins (l1++l2) x=l1++ins l2 x:=by
  induction l1 with
  | nil=>rfl
  | cons a r ih=>
    show ins (a::(r++l2)) x=a::(r++ins l2 x)
    rw [<-ih (fun y hy=>h y (List.mem_cons_of_mem _ hy))]
    have:=h a (by simp)
    rw [ins_cons,if_pos this]
theorem gslice_suf {xs:List Int} {k:Nat} (h:k<=xs.length):gslice xs (k:Int) (xs.length:Int)=some (xs.drop k):=by
  unfold gslice
  rw [if_pos ⟨by omega,by omega,by omega⟩]
  simp
theorem insert_impl (l:List Int) (x:Int) (h:l.length<=1000000000):impl_insertInt (l,x)=some (ins l x):=by
  have key:∀m:Nat,m<=l.length->(∀k (hk:k<m) (q:k<l.length),l[k]<x)->(∀q:m<l.length,¬l[m]<x)->impl_insertInt (l,x)=some (ins l x):=by
    intro m hm h1 h2
    have hlt:∀y∈l.take m,y<x:=by
      intro y hy
      obtain ⟨k,hk,rfl⟩:=List.getElem_of_mem hy
      rw [List.length_take] at hk
      rw [List.getElem_take]
      exact h1 k (by omega) (by omega)
    have e0:ins l x=l.take m++ins (l.drop m) x:=by
      rw [<-ins_split hlt,List.take_append_drop]
    unfold impl_insertInt
    dsimp only
    have hloop:Pu.loop (fun (v1:Int)=>
      let v2:Int:=((l).length:Int)
      let v3:Bool:=decide (v1<v2)
      bif v3 then (
        (gin (l).length v1).bind fun _=>
        (gget 0 l v1).bind fun v5=>
        let v6:Bool:=decide (v5<x)
        bif v6 then (
          let v7:Int:=wrap .i64 (v1+1)
          some (.inl v7)) else
        Option.map Sum.inr (
          some (.inl v1))) else
      Option.map Sum.inr (
        some (.inl v1))) 0=some ((.inl (m:Int)):Int⊕List Int):=by
      refine loop_upto m (fun k=>(k:Int)) (fun k hk=> ?_) ?_
      · dsimp only
        rw [dt (by omega),cond_true,gin_nat (by omega),gget_nat (show k<l.length by omega)]
        simp only [Option.bind_some]
        rw [dt (h1 k hk (by omega)),cond_true,wrap_ok (by omega)];rfl
      · dsimp only
        by_cases q:m<l.length
        · rw [dt (by omega),cond_true,gin_nat q,gget_nat q]
          simp only [Option.bind_some]
          rw [df (h2 q),cond_false];rfl
        · rw [df (by omega),cond_false];rfl
    dsimp only at hloop
    rw [hloop]
    rw [joinO_inl]
    by_cases q:m<l.length
    · rw [dt (show (m:Int)<(l.length:Int) by omega),cond_true,gin_nat q,gget_nat q]
      simp only [Option.bind_some]
      have ed:l.drop m=l[m]::l.drop (m+1):=List.drop_eq_getElem_cons q
      by_cases e:l[m]=x
      · rw [dt e,cond_true,e0]
        conv=>lhs;rw [<-List.take_append_drop m l]
        rw [ed]
        unfold ins
        rw [if_neg (h2 q),if_pos e]
      · rw [df e,cond_false,gslice_pre (by omega)]
        simp only [Option.bind_some]
        rw [gapp_ok (by simp;omega)]
        simp only [Option.bind_some]
        rw [gapp_ok (by simp;omega),gslice_suf (by omega)]
        simp only [Option.bind_some]
        rw [gapp_ok (by simp;omega),e0,ed]
        unfold ins
        rw [if_neg (h2 q),if_neg e]
        simp
    · rw [df (show ¬(m:Int)<(l.length:Int) by omega),cond_false,gslice_pre (by omega)]
      simp only [Option.bind_some]
      rw [gapp_ok (by simp;omega)]
      simp only [Option.bind_some]
      rw [gapp_ok (by simp;omega),gslice_suf (by omega)]
      simp only [Option.bind_some]
      rw [gapp_ok (by simp;omega),e0]
      have:l.drop m=[]:=by rw [List.drop_eq_nil_iff];omega
      rw [this]
      simp [ins]
  have hw:∀(r:List Int),∃m:Nat,m<=r.length/\(∀k (hk:k<m) (q:k<r.length),r[k]<x)/\(∀q:m<r.length,¬r[m]<x):=by
    intro r
    induction r with
    | nil=>exact ⟨0,by simp,fun k hk=>by omega,fun q=>by simp at q⟩
    | cons a r ih=>
      obtain ⟨m,h1,h2,h3⟩:=ih
      by_cases q:a<x
      · refine ⟨m+1,by simp only [List.length_cons];omega,fun k hk q' => ?_,fun q' => ?_⟩
        · cases k with
          | zero=>exact q
          | succ k=>simp only [List.getElem_cons_succ];exact h2 k (by omega) (by simp only [List.length_cons] at q';omega)
        · simp only [List.getElem_cons_succ];exact h3 (by simp only [List.length_cons] at q';omega)
      · exact ⟨0,by omega,fun k hk=>by omega,fun _=>q⟩
  obtain ⟨m,h1,h2,h3⟩:=hw l
  exact key m h1 h2 h3
theorem sort_spec (xs:List Int) (h:xs.length<=1000000000):∃o,spec_l27Sort xs=some o/\o.Perm xs/\o.Pairwise (·<=·):=by
  unfold spec_l27Sort
  rw [gapp_ok (by simp;omega)]
  simp only [Option.bind_some,List.nil_append]
  obtain ⟨o,h1,h2⟩:=loop_spec (f:=fun (v2:(Int×List Int))=>
    let v3:Int:=((v2.2).length:Int)
    let v4:Bool:=decide (v2.1<v3)
    bif v4 then (
      joinO (
        Pu.loop (fun (v5:(Int×List Int))=>
          let v6:Bool:=decide (0<v5.1)
          bif v6 then (
            (gin (v5.2).length v5.1).bind fun _=>
            (gget 0 v5.2 v5.1).bind fun v8=>
            let v9:Int:=wrap .i64 (v5.1 - 1)
            (gin (v5.2).length v9).bind fun _=>
            (gget 0 v5.2 v9).bind fun v11=>
            let v12:Bool:=decide (v8<v11)
            bif v12 then (
              (gin (v5.2).length v5.1).bind fun _=>
              (gget 0 v5.2 v5.1).bind fun v14=>
              let v15:Int:=wrap .i64 (v5.1 - 1)
              (gin (v5.2).length v15).bind fun _=>
              (gget 0 v5.2 v15).bind fun v17=>
              (gin (v5.2).length v5.1).bind fun _=>
              (gget 0 v5.2 v5.1).bind fun v19=>
              let v20:Int:=v17
              let v21:List Int:=gset v5.2 v5.1 v20
              let v22:Int:=wrap .i64 (v5.1 - 1)
              (gin (v21).length v22).bind fun _=>
              (gget 0 v21 v22).bind fun v24=>
              let v25:Int:=v14
              let v26:List Int:=gset v21 v22 v25
              let v27:Int:=wrap .i64 (v5.1 - 1)
              some (.inl (v27,v26))) else
            Option.map Sum.inr (
              some (.inl v5.2))) else
          Option.map Sum.inr (
            some (.inl v5.2))) v2) (fun (v5:List Int)=>
        let v6:Int:=wrap .i64 (v2.1+1)
        some (.inl (v6,v5)))) else
    Option.map Sum.inr (
      some v2.2)) (fun s=>1<=s.1/\s.2.Perm xs/\(s.2.take s.1.toNat).Pairwise (·<=·)) (fun o=>o.Perm xs/\o.Pairwise (·<=·)) (fun s=>(xs.length - s.1).toNat) (fun s hs=>by
      obtain ⟨i,acc⟩:=s
      obtain ⟨i0,hp,hs⟩:=hs
      simp only at i0 hp hs
      have hlen:=hp.length_eq
      dsimp only
      by_cases hi:i<(acc.length:Int)
      · left
        rw [dt hi,cond_true]
        obtain ⟨n,rfl⟩:∃n:Nat,i=(n:Int):=⟨i.toNat,by omega⟩
        have hn:n<acc.length:=by omega
        rw [Int.toNat_natCast] at hs
        obtain ⟨o,g1,g2⟩:=loop_spec (f:=fun (v5:(Int×List Int))=>
          let v6:Bool:=decide (0<v5.1)
          bif v6 then (
            (gin (v5.2).length v5.1).bind fun _=>
            (gget 0 v5.2 v5.1).bind fun v8=>
            let v9:Int:=wrap .i64 (v5.1 - 1)
            (gin (v5.2).length v9).bind fun _=>
            (gget 0 v5.2 v9).bind fun v11=>
            let v12:Bool:=decide (v8<v11)
            bif v12 then (
              (gin (v5.2).length v5.1).bind fun _=>
              (gget 0 v5.2 v5.1).bind fun v14=>
              let v15:Int:=wrap .i64 (v5.1 - 1)
              (gin (v5.2).length v15).bind fun _=>
              (gget 0 v5.2 v15).bind fun v17=>
              (gin (v5.2).length v5.1).bind fun _=>
              (gget 0 v5.2 v5.1).bind fun v19=>
              let v20:Int:=v17
              let v21:List Int:=gset v5.2 v5.1 v20
              let v22:Int:=wrap .i64 (v5.1 - 1)
              (gin (v21).length v22).bind fun _=>
              (gget 0 v21 v22).bind fun v24=>
              let v25:Int:=v14
              let v26:List Int:=gset v21 v22 v25
              let v27:Int:=wrap .i64 (v5.1 - 1)
              some (.inl (v27,v26))) else
            Option.map Sum.inr (
              some ((.inl v5.2):List Int⊕((Int×List Int)⊕List Int)))) else
          Option.map Sum.inr (
            some (.inl v5.2))) (fun s=>∃j:Nat,s.1=(j:Int)/\j<=n/\s.2=(acc.take n).take j++acc[n]::((acc.take n).drop j++acc.drop (n+1))/\∀y∈(acc.take n).drop j,acc[n]<y) (fun o=>∃r,o= .inl r/\r.Perm acc/\(r.take (n+1)).Pairwise (·<=·)) (fun s=>s.1.toNat) (fun s hs2=>by
            obtain ⟨z,a⟩:=s
            obtain ⟨j,ej,hj,ea,hy⟩:=hs2
            simp only at ej ea
            subst ej ea
            dsimp only
            have ltn:(acc.take n).length=n:=by rw [List.length_take];omega
            generalize hP:acc.take n=P at*
            generalize hR:acc.drop (n+1)=R at*
            generalize hx:acc[n]=x at*
            have hacc:acc=P++x::R:=by
              rw [<-hP,<-hR,<-hx,<-List.drop_eq_getElem_cons hn,List.take_append_drop]
            have ltj:(P.take j).length=j:=by rw [List.length_take];omega
            have done:(∀y∈P.take j,y<=x)->(P.take j++x::(P.drop j++R)).Perm acc/\((P.take j++x::(P.drop j++R)).take (n+1)).Pairwise (·<=·):=by
              intro hle
              constructor
              · rw [hacc]
                have e1:(P.take j++x::(P.drop j++R)).Perm (x::(P.take j++(P.drop j++R))):=List.perm_middle
                refine e1.trans ?_
                rw [<-List.append_assoc,List.take_append_drop]
                exact List.perm_middle.symm
              · have e2:(P.take j++x::(P.drop j++R)).take (n+1)=P.take j++x::P.drop j:=by
                  have:P.take j++x::(P.drop j++R)=(P.take j++x::P.drop j)++R:=by simp
                  rw [this,List.take_left']
                  simp only [List.length_append,List.length_cons,ltj,List.length_drop,ltn];omega
                rw [e2,List.pairwise_append]
                have hs' :(P.take j++P.drop j).Pairwise (·<=·):=by rw [List.take_append_drop];exact hs
                rw [List.pairwise_append] at hs'
                refine ⟨hs'.1,?_,?_⟩
                · rw [List.pairwise_cons]
                  exact ⟨fun y q=>Int.le_of_lt (hy y q),hs'.2.1⟩
                · intro y q z q2
                  rcases List.mem_cons.1 q2 with e | e
                  · rw [e];exact hle y q
                  · exact hs'.2.2 y q z e
            by_cases j0:j=0
            · right
              subst j0
              rw [df (by omega),cond_false]
              have:=done (by simp)
              exact ⟨_,rfl,_,rfl,this.1,this.2⟩
            · obtain ⟨m,rfl⟩:∃m,j=m+1:=⟨j - 1,by omega⟩
              have hm:m<P.length:=by omega
              have etk:P.take (m+1)=P.take m++[P[m]]:=take_succ' P m hm
              have ltm:(P.take m).length=m:=by rw [List.length_take];omega
              have lall:(P.take (m+1)++x::(P.drop (m+1)++R)).length=acc.length:=by
                rw [hacc];simp only [List.length_append,List.length_cons,List.length_take,List.length_drop,ltn];omega
              have g1:(P.take (m+1)++x::(P.drop (m+1)++R))[m+1]? =some x:=by
                rw [List.getElem?_append_right (by omega),ltj];simp
              have g2:(P.take (m+1)++x::(P.drop (m+1)++R))[m]? =some P[m]:=by
                rw [List.getElem?_append_left (by omega),etk,List.getElem?_append_right (by omega),ltm];simp
              have hb1:m+1<(P.take (m+1)++x::(P.drop (m+1)++R)).length:=by omega
              have hb2:m<(P.take (m+1)++x::(P.drop (m+1)++R)).length:=by omega
              have e1:(P.take (m+1)++x::(P.drop (m+1)++R))[m+1]=x:=by
                rw [List.getElem?_eq_getElem hb1] at g1;exact Option.some.inj g1
              have e2:(P.take (m+1)++x::(P.drop (m+1)++R))[m]=P[m]:=by
                rw [List.getElem?_eq_getElem hb2] at g2;exact Option.some.inj g2
              have hw:wrap .i64 (((m+1:Nat):Int) - 1)=(m:Int):=by rw [wrap_ok (by omega)];omega
              rw [dt (by omega),cond_true,gin_nat hb1,gget_nat hb1,hw,gin_nat hb2,gget_nat hb2,e1,e2]
              simp only [Option.bind_some]
              by_cases q:x<P[m]
              · left
                rw [dt q,cond_true,gset_nat,List.length_set,gin_nat hb2,gget_nat (by rw [List.length_set];exact hb2)]
                simp only [Option.bind_some]
                rw [gset_nat]
                refine ⟨_,rfl,⟨m,rfl,by omega,?_,?_⟩,by simp only;omega⟩
                · simp only
                  have edr:P.drop m=P[m]::P.drop (m+1):=List.drop_eq_getElem_cons hm
                  rw [edr,etk,List.append_assoc]
                  rw [List.set_append_right _ _ (by omega),List.set_append_right _ _ (by omega),ltm]
                  have:m+1 - m=1:=by omega
                  rw [this,Nat.sub_self]
                  simp
                  rw [edr];rfl
                · have edr:P.drop m=P[m]::P.drop (m+1):=List.drop_eq_getElem_cons hm
                  rw [edr]
                  intro y qy
                  rcases List.mem_cons.1 qy with e | e
                  · rw [e];exact q
                  · exact hy y e
              · right
                rw [df q,cond_false]
                have:=done (by
                  intro y qy
                  rw [etk] at qy
                  have hs' :(P.take (m+1)).Pairwise (·<=·):=hs.sublist (List.take_sublist _ _)
                  rw [etk,List.pairwise_append] at hs'
                  rcases List.mem_append.1 qy with e | e
                  · have:=hs'.2.2 y e P[m] (by simp)
                    omega
                  · have:=List.mem_singleton.1 e;omega)
                exact ⟨_,rfl,_,rfl,this.1,this.2⟩) ((n:Int),acc) ⟨n,rfl,Nat.le_refl _,by
                  simp only
                  have ltn:(acc.take n).length=n:=by rw [List.length_take];omega
                  have d0:(acc.take n).drop n=[]:=by rw [List.drop_eq_nil_iff];omega
                  have d1:(acc.take n).take n=acc.take n:=List.take_of_length_le (by omega)
                  rw [d0,d1,List.nil_append,<-List.drop_eq_getElem_cons hn,List.take_append_drop],by
                  have d0:(acc.take n).drop n=[]:=by rw [List.drop_eq_nil_iff,List.length_take];omega
                  rw [d0];simp⟩
        obtain ⟨r,rfl,g3,g4⟩:=g2
        dsimp only at g1
        rw [g1]
        rw [joinO_inl,wrap_ok (by omega)]
        have e3:((n:Int)+1).toNat=n+1:=by omega
        refine ⟨_,rfl,⟨by simp only;omega,g3.trans hp,by simp only [e3];exact g4⟩,by simp only;omega⟩
      · right
        rw [df hi,cond_false]
        refine ⟨acc,rfl,hp,?_⟩
        rw [List.take_of_length_le (by omega)] at hs
        exact hs) (1,xs) ⟨by simp,List.Perm.refl _,by
          simp only
          cases xs with
          | nil=>simp
          | cons a r=>simp⟩
  exact ⟨o,h1,h2⟩
end Go.Pf
