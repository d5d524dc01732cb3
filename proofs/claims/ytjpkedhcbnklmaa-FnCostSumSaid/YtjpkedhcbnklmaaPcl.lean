/-
  Own work. Packing, plainly: the search for partners.
-/
import Derived.Test.YtjpkedhcbnklmaaPck
namespace Go.Pf
open Go Go.Pu
set_option linter.unusedVariables false
def scP (n:Net) (e:Le) (rest:List Le):Nat->Int×Int
  | 0=>(-1,-1)
  | k+1=>if (pinsP n [e,leAt rest k]).length<=5/\(scP n e rest k).2<com n e (leAt rest k) then ((k:Int),com n e (leAt rest k)) else scP n e rest k
theorem com_le {n:Net} (h:netP n=true) {e r:Le} (he:leOk n e):0<=com n e r/\com n e r<=5:=by
  have h1:=nds_len h he
  have h2:=cmA_le (ndsLe n e) (ndsLe n r) (ndsLe n e).length
  unfold com;omega
theorem scP_ok {n:Net} (h:netP n=true) {e:Le} (he:leOk n e) (rest:List Le) (k:Nat): -1<=(scP n e rest k).1/\(scP n e rest k).1<k∧-1<=(scP n e rest k).2/\(scP n e rest k).2<=5:=by
  induction k with
  | zero=>simp [scP]
  | succ k ih=>
    unfold scP
    split
    · have:=com_le h (r:=leAt rest k) he
      exact ⟨by simp only;omega,by simp only;omega,by simp only;omega,by simp only;omega⟩
    · omega
inductive Packs (n:Net):List Blk->List Le->List Blk->Prop
  | nil (bs:List Blk):Packs n bs [] bs
  | two (bs:List Blk) (e:Le) (rest:List Le) (b:Nat) (out:List Blk):(scP n e rest rest.length).1=(b:Int)->b<rest.length->Packs n (bs++[(3,(0,[e,leAt rest b]))]) (rest.take b++rest.drop (b+1)) out->Packs n bs (e::rest) out
  | one (bs:List Blk) (e:Le) (rest:List Le) (out:List Blk):(scP n e rest rest.length).1<0->Packs n (bs++[(3,(0,[e]))]) rest out->Packs n bs (e::rest) out
theorem packs_ex {n:Net} (h:netP n=true):∀(m:Nat) (bs:List Blk) (left:List Le),left.length<=m->(∀e∈left,leOk n e)->∃out,Packs n bs left out
  | _,bs,[],_,_=>⟨bs,.nil bs⟩
  | 0,bs,e::rest,hm,_=>by simp at hm
  | m+1,bs,e::rest,hm,ho=>by
    have hs:=scP_ok h (ho e (by simp)) rest rest.length
    simp only [List.length_cons] at hm
    by_cases c:(scP n e rest rest.length).1<0
    · obtain ⟨out,hp⟩:=packs_ex h m (bs++[(3,(0,[e]))]) rest (by omega) (fun x hx=>ho x (by simp [hx]))
      exact ⟨out,.one bs e rest out c hp⟩
    · obtain ⟨b,hb⟩:∃b:Nat,(scP n e rest rest.length).1=(b:Int):=⟨(scP n e rest rest.length).1.toNat,by omega⟩
      obtain ⟨out,hp⟩:=packs_ex h m (bs++[(3,(0,[e,leAt rest b]))]) (rest.take b++rest.drop (b+1)) (by simp;omega) (fun x hx=>by
        rcases List.mem_append.1 hx with q | q
        · exact ho x (List.mem_cons_of_mem _ (List.mem_of_mem_take q))
        · exact ho x (List.mem_cons_of_mem _ (List.mem_of_mem_drop q)))
      exact ⟨out,.two bs e rest b out hb (by omega) hp⟩
theorem packs_grow {n:Net} {bs:List Blk} {left:List Le} {out:List Blk} (h:Packs n bs left out):bs.length<=out.length/\(left≠[]->bs.length<out.length)/\((∀b∈bs,b.2.2.length<=2)->∀b∈out,b.2.2.length<=2):=by
  induction h with
  | nil bs=>exact ⟨Nat.le_refl _,fun q=>absurd rfl q,fun q=>q⟩
  | two bs e rest b out _ _ _ ih=>
    obtain ⟨i1,_,i3⟩:=ih
    rw [List.length_append] at i1
    simp only [List.length_cons,List.length_nil] at i1
    refine ⟨by omega,fun _=>by omega,fun q=>i3 fun x hx=> ?_⟩
    rcases List.mem_append.1 hx with p | p
    · exact q x p
    · rw [List.mem_singleton] at p;subst p;simp
  | one bs e rest out _ _ ih=>
    obtain ⟨i1,_,i3⟩:=ih
    rw [List.length_append] at i1
    simp only [List.length_cons,List.length_nil] at i1
    refine ⟨by omega,fun _=>by omega,fun q=>i3 fun x hx=> ?_⟩
    rcases List.mem_append.1 hx with p | p
    · exact q x p
    · rw [List.mem_singleton] at p;subst p;simp
def finP (out:List Blk):List Blk×Bool:=if 64<(out.length:Int) then ([],false) else (out,true)
noncomputable def pkF (v0:Net):(List Blk×List Le)->Option ((List Blk×List Le)⊕(List Blk×Bool)):=(fun (v12:(List (Int×(Int×List (Int×Int)))×List (Int×Int)))=>
                let v13:Int:=((v12.2).length:Int)
                let v14:Bool:=decide (0<v13)
                bif v14 then (
                  (gin (v12.2).length 0).bind fun _=>
                  (gget (0,0) v12.2 0).bind fun v16=>
                  let v17:List (Int×Int):=[v16]
                  (impl_leNodes (v0,v16)).bind fun v18=>
                  Pu.loop (fun (v19:(Int×(Int×Int)))=>
                    let v20:Int:=((v12.2).length:Int)
                    let v21:Bool:=decide (v19.2.2<v20)
                    bif v21 then (
                      joinO (
                        (gin (v12.2).length v19.2.2).bind fun _=>
                        (gget (0,0) v12.2 v19.2.2).bind fun v23=>
                        let v24:List (Int×Int):=[v16,v23]
                        some (.inl v24)) (fun (v22:List (Int×Int))=>
                        (gin (v12.2).length v19.2.2).bind fun _=>
                        (gget (0,0) v12.2 v19.2.2).bind fun v24=>
                        (impl_leNodes (v0,v24)).bind fun v25=>
                        (impl_commonCount (v18,v25)).bind fun v26=>
                        (impl_pinNodes (v0,(3,(0,v22)))).bind fun v27=>
                        let v28:Int:=((v27).length:Int)
                        let v29:Bool:=decide (v28<=5)
                        bif v29 then (
                          let v30:Bool:=decide (v19.2.1<v26)
                          bif v30 then (
                            let v31:Int:=wrap .i64 (v19.2.2+1)
                            some (.inl (v19.2.2,(v26,v31)))) else
                          let v31:Int:=wrap .i64 (v19.2.2+1)
                          some (.inl (v19.1,(v19.2.1,v31)))) else
                        let v30:Int:=wrap .i64 (v19.2.2+1)
                        some (.inl (v19.1,(v19.2.1,v30))))) else
                    Option.map Sum.inr (
                      let v22:Bool:=decide (0<v19.1)
                      bif v22 then (
                        (gin (v12.2).length v19.1).bind fun _=>
                        (gget (0,0) v12.2 v19.1).bind fun v24=>
                        let v25:List (Int×Int):=[v24]
                        (gapp 16 v17 v25).bind fun v26=>
                        (gslice v12.2 0 v19.1).bind fun v27=>
                        let v28:Int:=wrap .i64 (v19.1+1)
                        (gslice v12.2 v28 ((v12.2).length:Int)).bind fun v29=>
                        (gapp 16 v27 v29).bind fun v30=>
                        (gslice v30 1 ((v30).length:Int)).bind fun v31=>
                        let v32:List (Int×(Int×List (Int×Int))):=[(3,(0,v26))]
                        (gapp 40 v12.1 v32).bind fun v33=>
                        some (.inl (v33,v31))) else
                      (gslice v12.2 1 ((v12.2).length:Int)).bind fun v23=>
                      let v24:List (Int×(Int×List (Int×Int))):=[(3,(0,v17))]
                      (gapp 40 v12.1 v24).bind fun v25=>
                      some (.inl (v25,v23)))) ((-1),((-1),1))) else
                Option.map Sum.inr (
                  let v15:Int:=((v12.1).length:Int)
                  let v16:Bool:=decide (64<v15)
                  bif v16 then (
                    some (([]:List (Int×(Int×List (Int×Int)))),false)) else
                  some (v12.1,true)))
def b1 (b:Int):Int:=if b<0 then -1 else b+1
theorem les2 {n:Net} {e r:Le} (he:leOk n e) (hr:leOk n r):lesP n [e,r]=true:=by
  unfold lesP
  simp [he,hr]
theorem leAt_cons (e:Le) (rest:List Le) (k:Nat):leAt (e::rest) (k+1)=leAt rest k:=by unfold leAt;simp
theorem leAt_mem {ls:List Le} {k:Nat} (h:k<ls.length):leAt ls k∈ls:=by rw [<-le_eq h];exact List.getElem_mem h
theorem gslice_preL {xs:List Le} {k:Nat} (h:k<=xs.length):gslice xs 0 (k:Int)=some (xs.take k):=by
  unfold gslice
  rw [if_pos ⟨by omega,by omega,by omega⟩];simp
theorem gslice_sufL {xs:List Le} {k:Nat} (h:k<=xs.length):gslice xs (k:Int) (xs.length:Int)=some (xs.drop k):=by
  unfold gslice
  rw [if_pos ⟨by omega,by omega,by omega⟩];simp
theorem pkF_scan {n:Net} (hb:NetB n) (hn:netP n=true) (e:Le) (rest:List Le) (bs:List Blk) (ho:∀x∈e::rest,leOk n x) (hl:rest.length<=1000) (hbl:bs.length<=1000):
    pkF n (bs,e::rest)=some (.inl (if 0<b1 (scP n e rest rest.length).1 then (bs++[(3,(0,[e,leAt rest (scP n e rest rest.length).1.toNat]))],rest.take (scP n e rest rest.length).1.toNat++rest.drop ((scP n e rest rest.length).1.toNat+1)) else (bs++[(3,(0,[e]))],rest))):=by
  have he:=ho e (by simp)
  unfold pkF
  have hg0:gget ((0,0):Le) (e::rest) 0=some e:=by rw [gget_some (by omega) (by simp only [List.length_cons];omega)];rfl
  have hi0:gin (e::rest).length 0=some ():=gin_some (by omega) (by simp only [List.length_cons];omega)
  try dsimp only
  rw [dt (show 0<((e::rest).length:Int) by simp only [List.length_cons];omega),cond_true,hi0,hg0]
  simp only [Option.bind_some]
  rw [nds_impl hn he]
  simp only [Option.bind_some]
  refine loop_upto rest.length (fun k=>(b1 (scP n e rest k).1,((scP n e rest k).2,((1+k:Nat):Int)))) (fun k hk=> ?_) ?_
  · have hsc:=scP_ok hn he rest k
    have hr:=ho (leAt rest k) (List.mem_cons_of_mem _ (leAt_mem hk))
    have hk2:1+k<(e::rest).length:=by simp only [List.length_cons];omega
    have hgk:gget ((0,0):Le) (e::rest) ((1+k:Nat):Int)=some (leAt rest k):=by
      rw [le_get hk2,Nat.add_comm,leAt_cons]
    have hik:gin (e::rest).length ((1+k:Nat):Int)=some ():=gin_nat hk2
    have hit:itemP n (3,(0,[e,leAt rest k]))=true:=les2 he hr
    have hpin:pinN n (3,(0,[e,leAt rest k]))=pinsP n [e,leAt rest k]:=rfl
    try dsimp only
    rw [dt (show ((1+k:Nat):Int)<((e::rest).length:Int) by omega),cond_true,hik,hgk]
    simp only [Option.bind_some]
    rw [join_in,nds_impl hn hr]
    simp only [Option.bind_some]
    rw [com_impl hn he hr]
    simp only [Option.bind_some]
    rw [pinN_impl hb hn hit (by simp),hpin]
    simp only [Option.bind_some]
    show _=some (Sum.inl (b1 (if (pinsP n [e,leAt rest k]).length<=5/\(scP n e rest k).2<com n e (leAt rest k) then ((k:Int),com n e (leAt rest k)) else scP n e rest k).1,((if (pinsP n [e,leAt rest k]).length<=5/\(scP n e rest k).2<com n e (leAt rest k) then ((k:Int),com n e (leAt rest k)) else scP n e rest k).2,((1+(k+1):Nat):Int))))
    have hw:wrap .i64 (((1+k:Nat):Int)+1)=((1+(k+1):Nat):Int):=by rw [wrap_ok (by omega)];omega
    by_cases c1:((pinsP n [e,leAt rest k]).length:Int)<=5
    · rw [dt c1,cond_true]
      by_cases c2:(scP n e rest k).2<com n e (leAt rest k)
      · rw [dt c2,cond_true,if_pos ⟨by omega,c2⟩,hw]
        have e1:b1 (k:Int)=((1+k:Nat):Int):=by unfold b1;rw [if_neg (by omega)];omega
        rw [e1]
      · rw [df c2,cond_false,if_neg (fun q=>c2 q.2),hw]
    · rw [df c1,cond_false,if_neg (fun q=>c1 (by omega)),hw]
  · have hsc:=scP_ok hn he rest rest.length
    generalize scP n e rest rest.length=s at*
    have hlen:((1+rest.length:Nat):Int)=((e::rest).length:Int):=by simp only [List.length_cons];omega
    try dsimp only
    rw [hlen,df (show ¬((e::rest).length:Int)<((e::rest).length:Int) by omega),cond_false]
    refine mapS ?_
    by_cases c:s.1<0
    · have e1:b1 s.1= -1:=by unfold b1;rw [if_pos c]
      have hs1:gslice (e::rest) 1 ((e::rest).length:Int)=some rest:=gslice_sufL (k:=1) (by simp only [List.length_cons];omega)
      rw [e1,df (show ¬(0:Int)< -1 by omega),cond_false,if_neg (show ¬(0:Int)< -1 by omega),hs1]
      simp only [Option.bind_some]
      rw [gapp40 (by simp only [List.length_cons,List.length_nil];omega)];rfl
    · obtain ⟨b,hb'⟩:∃b:Nat,s.1=(b:Int):=⟨s.1.toNat,by omega⟩
      have e1:b1 s.1=((b+1:Nat):Int):=by unfold b1;rw [if_neg c,hb'];omega
      have hbr:b<rest.length:=by omega
      have hbl2:b+1<(e::rest).length:=by simp only [List.length_cons];omega
      rw [e1,dt (show (0:Int)<((b+1:Nat):Int) by omega),cond_true,if_pos (show (0:Int)<((b+1:Nat):Int) by omega),gin_nat hbl2,le_get hbl2,leAt_cons]
      simp only [Option.bind_some]
      rw [gapp16l (by simp),gslice_preL (show b+1<=(e::rest).length by omega),wrap_ok (by omega)]
      simp only [Option.bind_some]
      have e2:(((b+1:Nat):Int)+1)=((b+2:Nat):Int):=by omega
      rw [e2,gslice_sufL (show b+2<=(e::rest).length by omega)]
      simp only [Option.bind_some]
      rw [gapp16l (by rw [List.length_take,List.length_drop];omega)]
      simp only [Option.bind_some]
      have e3:∀zs:List Le,zs=(e::rest).take (b+1)++(e::rest).drop (b+2)->gslice zs 1 (zs.length:Int)=some (rest.take b++rest.drop (b+1)):=fun zs hz=>by
        subst hz
        rw [show (1:Int)=((1:Nat):Int) from rfl,gslice_sufL (by simp)];rfl
      rw [e3 _ rfl]
      simp only [Option.bind_some]
      rw [gapp40 (by simp only [List.length_cons,List.length_nil];omega),hb',Int.toNat_natCast];rfl
theorem loop_inl {σ ω:Type} {f:σ->Option (σ⊕ω)} {s s' :σ} (h:f s=some (.inl s')):loop f s=loop f s' :=by rw [loop_eq,h]
theorem loop_inr {σ ω:Type} {f:σ->Option (σ⊕ω)} {s:σ} {o:ω} (h:f s=some (.inr o)):loop f s=some o:=by rw [loop_eq,h]
theorem pkF_run {n:Net} (hb:NetB n) (hn:netP n=true) {bs:List Blk} {left:List Le} {out:List Blk} (h:Packs n bs left out):(∀x∈left,leOk n x)->bs.length+left.length<=1000->loop (pkF n) (bs,left)=some (finP out):=by
  induction h with
  | nil bs=>
    intro _ _
    refine loop_inr ?_
    unfold pkF finP
    try dsimp only
    rw [df (show ¬0<(([]:List Le).length:Int) by simp),cond_false]
    by_cases c:64<(bs.length:Int)
    · rw [dt c,cond_true,if_pos c];rfl
    · rw [df c,cond_false,if_neg c];rfl
  | two bs e rest b out h1 h2 _ ih=>
    intro ho hl
    simp only [List.length_cons] at hl
    have hs:=pkF_scan hb hn e rest bs ho (by omega) (by omega)
    rw [h1,show b1 ((b:Nat):Int)=((b+1:Nat):Int) by unfold b1;rw [if_neg (by omega)];omega,if_pos (show (0:Int)<((b+1:Nat):Int) by omega),Int.toNat_natCast] at hs
    rw [loop_inl hs]
    refine ih (fun x hx=> ?_) ?_
    · rcases List.mem_append.1 hx with q | q
      · exact ho x (List.mem_cons_of_mem _ (List.mem_of_mem_take q))
      · exact ho x (List.mem_cons_of_mem _ (List.mem_of_mem_drop q))
    · simp only [List.length_append,List.length_cons,List.length_nil,List.length_take,List.length_drop];omega
  | one bs e rest out h1 _ ih=>
    intro ho hl
    simp only [List.length_cons] at hl
    have hs:=pkF_scan hb hn e rest bs ho (by omega) (by omega)
    rw [show b1 (scP n e rest rest.length).1= -1 by unfold b1;rw [if_pos h1],if_neg (show ¬(0:Int)< -1 by omega)] at hs
    rw [loop_inl hs]
    refine ih (fun x hx=>ho x (List.mem_cons_of_mem _ hx)) ?_
    simp only [List.length_append,List.length_cons,List.length_nil];omega
end Go.Pf
