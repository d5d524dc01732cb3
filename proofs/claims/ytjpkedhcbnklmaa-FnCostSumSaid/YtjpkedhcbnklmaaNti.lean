/-
  Own work. Draws, plainly: random placements.
-/
import Derived.Test.YtjpkedhcbnklmaaNth
import Derived.Test.YtjpkedhcbnklmaaPla
import Derived.Test.YtjpkedhcbnklmaaLawNearestFree
import Derived.Test.YtjpkedhcbnklmaaCno
import Derived.Test.YtjpkedhcbnklmaaPcx
namespace Go.Pf
open Go Go.Pu
set_option linter.unusedVariables false
theorem nodup_sub:∀(xs ys:List Int),xs.Nodup->(∀x∈xs,x∈ys)->xs.length<=ys.length
  | [],_,_,_=>by simp
  | x::xs,ys,h,hs=>by
    have hx:=hs x (by simp)
    obtain ⟨h1,h2⟩:=List.nodup_cons.1 h
    have e:=nodup_sub xs (ys.erase x) h2 (fun y hy=>by
      have hne:y≠x:=fun e=>h1 (e▸hy)
      exact (List.mem_erase_of_ne hne).2 (hs y (by simp [hy])))
    rw [List.length_erase_of_mem hx] at e
    have:=List.length_pos_of_mem hx
    simp only [List.length_cons]
    omega
theorem tilesTo_nodup (d:Dev) (k:Int) (n:Nat):(tilesTo d k n).Nodup:=by
  unfold tilesTo
  refine List.Pairwise.filter _ ?_
  refine List.Pairwise.map _ (fun a b h e=>h (by omega)) (List.nodup_range (n:=n))
theorem mem_tilesTo {d:Dev} {k:Int} {n:Nat} {t:Int}:t∈tilesTo d k n↔(0<=t/\t<n)/\tkp d t=k:=by
  unfold tilesTo
  rw [List.mem_filter,List.mem_map]
  constructor
  · rintro ⟨⟨j,hj,rfl⟩,h2⟩
    have:=List.mem_range.1 hj
    exact ⟨by omega,of_decide_eq_true h2⟩
  · rintro ⟨h1,h2⟩
    exact ⟨⟨t.toNat,List.mem_range.2 (by omega),by omega⟩,decide_eq_true h2⟩
theorem mem_tilesP {d:Dev} {k t:Int} (hd:DOk d) (hk:0<=k):t∈tilesP d k↔tk d t=k:=by
  unfold tilesP tk
  rw [if_pos hd,mem_tilesTo]
  have hm:=mul_le36 hd.1 hd.2.1
  by_cases h:0<=t/\t<d.1*d.2.1
  · rw [if_pos ⟨hd,h⟩]
    exact ⟨fun e=>e.2,fun e=>⟨by omega,e⟩⟩
  · rw [if_neg (fun e=>h e.2)]
    exact ⟨fun e=>absurd ⟨e.1.1,by omega⟩ h,fun e=>by omega⟩
theorem tilesP_neg {d:Dev} {k t:Int} (h:t∈tilesP d k):0<=k:=by
  unfold tilesP at h
  split at h
  · have:=(mem_tilesTo.1 h).2
    have:=tkp_ge d t
    omega
  · cases h
theorem tilesP_nodup (d:Dev) (k:Int):(tilesP d k).Nodup:=by
  unfold tilesP
  split
  · exact tilesTo_nodup _ _ _
  · exact List.nodup_nil
structure Pl (d:Dev) (ks ps:List Int):Prop where
  eq:ps.map (tk d)=ks.map bt
  nd:ps.Nodup
  ge:∀p∈ps,0<=tk d p
def Fit (d:Dev) (ks:List Int):Prop:=∀k,(ks.map bt).count k<=(tilesP d k).length
theorem count_filter (f:Int->Int) (ps:List Int) (k:Int):(ps.map f).count k=(ps.filter fun p=>decide (f p=k)).length:=by
  rw [List.count_eq_countP,List.countP_map,List.countP_eq_length_filter]
  congr 1
theorem Pl.fit {d:Dev} {ks ps:List Int} (hd:DOk d) (h:Pl d ks ps):Fit d ks:=fun k=>by
  rw [<-h.eq,count_filter]
  refine nodup_sub _ _ (List.Pairwise.filter _ h.nd) fun x hx=> ?_
  have:=of_decide_eq_true (List.mem_filter.1 hx).2
  have h0:=h.ge x (List.mem_filter.1 hx).1
  exact (mem_tilesP hd (by omega)).2 this
theorem Pl.full {d:Dev} {ks ps:List Int} {k:Int} (hd:DOk d) (h:Pl d ks ps) (ha:∀t∈tilesP d k,t∈ps):(tilesP d k).length<=(ks.map bt).count k:=by
  rw [<-h.eq,count_filter]
  refine nodup_sub _ _ (tilesP_nodup _ _) fun x hx=> ?_
  exact List.mem_filter.2 ⟨ha x hx,decide_eq_true ((mem_tilesP hd (tilesP_neg hx)).1 hx)⟩
theorem Pl.len {d:Dev} {ks ps:List Int} (h:Pl d ks ps):ps.length=ks.length:=by
  have:=congrArg List.length h.eq
  simpa using this
theorem Pl.nil (d:Dev):Pl d [] []:=⟨rfl,List.nodup_nil,fun p hp=>by cases hp⟩
theorem Pl.snoc {d:Dev} {ks ps:List Int} {k t:Int} (h:Pl d ks ps) (ht:tk d t=bt k) (h0:0<=tk d t) (hn:t∉ps):Pl d (ks++[k]) (ps++[t]):=by
  refine ⟨?_,?_,?_⟩
  · rw [List.map_append,List.map_append,h.eq]
    simp [ht]
  · rw [List.nodup_append]
    refine ⟨h.nd,by simp,fun a ha b hb e=> ?_⟩
    rw [List.mem_singleton] at hb
    subst hb;subst e;exact hn ha
  · intro p hp
    rcases List.mem_append.1 hp with q | q
    · exact h.ge p q
    · rw [List.mem_singleton] at q;subst q;exact h0
theorem tk_lt' {d:Dev} {t:Int} (h:0<=tk d t):DOk d/\0<=t/\t<d.1*d.2.1:=by
  unfold tk at h
  split at h
  · rename_i q;exact q
  · omega
theorem Pl.place {d:Dev} {ks ps:List Int} (h:Pl d ks ps) (hd:DOk d) (hl:ks.length<=64):placeP d ks ps=true:=by
  have el:=h.len
  unfold placeP
  rw [dt ⟨hd,hl,el⟩,Bool.true_and,List.all_eq_true]
  intro k hk
  have hk:=List.mem_range.1 hk
  unfold plOk
  rw [dif_pos ⟨hk,by omega⟩]
  refine decide_eq_true ⟨h.ge _ (List.getElem_mem _),?_,fun hm=> ?_⟩
  · have e:=congrArg (fun l=>l[k]?) h.eq
    simp only [List.getElem?_map] at e
    rw [List.getElem?_eq_getElem (by omega),List.getElem?_eq_getElem hk] at e
    simpa using e
  · obtain ⟨j,hj,e⟩:=List.getElem_of_mem hm
    rw [List.length_take] at hj
    rw [List.getElem_take] at e
    have:=(List.getElem_inj h.nd).1 e
    omega
theorem Pl.le36 {d:Dev} {ks ps:List Int} (h:Pl d ks ps) (hd:DOk d):((ps.length:Nat):Int)<=d.1*d.2.1:=by
  have hm:=mul_le36 hd.1 hd.2.1
  have e:=nodup_sub ps ((List.range (d.1*d.2.1).toNat).map fun (t:Nat)=>(t:Int)) h.nd (fun x hx=>by
    have:=tk_lt' (h.ge x hx)
    exact List.mem_map.2 ⟨x.toNat,List.mem_range.2 (by omega),by omega⟩)
  simp at e
  omega
def RQ (d:Dev) (ks r:List Int):Prop:=(r=[]\/Pl d ks r)/\(Fit d ks->Pl d ks r)
theorem count_snoc_le {xs:List Int} {n:Nat} {k:Int} (hn:n<xs.length) (hk:bt (xs.getD n 0)=k):((xs.take n).map bt).count k+1<=(xs.map bt).count k:=by
  have e:((xs.take (n+1)).map bt).count k=((xs.take n).map bt).count k+1:=by
    rw [take_succ' xs n hn,List.map_append,List.count_append]
    have:bt xs[n]=k:=by rw [<-hk,List.getD,List.getElem?_eq_getElem hn];rfl
    simp [this]
  rw [<-e]
  refine List.Sublist.count_le _ ?_
  exact (List.take_sublist _ _).map _
theorem random_tot {b:List Int} {c:Cur} (hb:CdOk b) (hc:CurOk b c) {d:Dev} (hd:DOk d) {ks:List Int} (hl:ks.length<=1000):Tot (spec_l29Random ((b,c),(d,ks))) (fun r=>RQ d ks r.1/\CurOk b r.2):=by
  unfold spec_l29Random
  dsimp only
  have hm:=mul_le36 hd.1 hd.2.1
  obtain ⟨N,hN⟩:∃N:Nat,d.1*d.2.1=(N:Int):=⟨(d.1*d.2.1).toNat,by omega⟩
  rw [wrap_ok (z:=d.1*d.2.1) (by omega)]
  refine Tot.make (by omega) (by omega) (by omega) ?_
  have e0:(d.1*d.2.1).toNat=N:=by omega
  rw [e0]
  refine Tot.lp (fun s=>(0<=s.1/\s.1<=(ks.length:Int))/\CurOk b (s.2.1,s.2.2.1)/\Pl d (ks.take s.1.toNat) s.2.2.2.1/\s.2.2.2.2=seenA N s.2.2.2.1) (fun s=>((ks.length:Int) - s.1).toNat) ⟨⟨by simp only;omega,by simp only;omega⟩,hc,by simpa using Pl.nil d,seenA_nil N⟩ (fun s hs=> ?_)
  obtain ⟨i,p1,p2,ps,us⟩:=s
  obtain ⟨⟨i0,i1⟩,hcur,hp,hus⟩:=hs
  simp only at i0 i1 hcur hp hus
  dsimp only
  subst hus
  refine Tot.dite (fun h1=> ?_) (fun h1=>Tot.exit (Tot.ret ?_))
  rotate_left
  · have e:i.toNat=ks.length:=by omega
    rw [e,List.take_length] at hp
    exact ⟨⟨.inr hp,fun _=>hp⟩,hcur⟩
  refine Tot.get i0 h1 fun kd hkd hkm=> ?_
  refine Tot.bindEq (bt_spec kd) ?_
  refine Tot.bindEq (tiles_spec d _) ?_
  have hTl:=tilesP_len d (bt kd)
  have hTt:∀t∈tilesP d (bt kd),tk d t=bt kd/\0<=bt kd/\0<=t/\t<(N:Int):=fun t ht=>by
    have h0:=tilesP_neg ht
    have h2:=(mem_tilesP hd h0).1 ht
    have h3:=tk_lt' (d:=d) (t:=t) (by omega)
    exact ⟨h2,h0,by omega⟩
  generalize hT:tilesP d (bt kd)=T at*
  refine Tot.below hb hcur fun st c' hc' hst0 hst1=> ?_
  refine Tot.join (A:=fun w=>(w<0/\∀t∈T,t∈ps)\/(w∈T/\w∉ps)) ?_ fun w hw=> ?_
  · refine Tot.lp (fun s=>(0<=s.2/\s.2<=(T.length:Int))/\((s.1= -1/\∀j:Nat,(j:Int)<s.2->T.getD (((st+j) % (T.length:Int)).toNat) 0∈ps)\/(s.1∈T/\s.1∉ps))) (fun s=>((T.length:Int) - s.2).toNat) ⟨⟨by simp only;omega,by simp only;omega⟩,.inl ⟨rfl,fun j hj=>by simp only at hj;omega⟩⟩ (fun s hs=> ?_)
    obtain ⟨w,j⟩:=s
    obtain ⟨⟨j0,j1⟩,hw⟩:=hs
    simp only at j0 j1 hw
    dsimp only
    refine Tot.dite (fun h2=> ?_) (fun h2=>Tot.exit (Tot.ret ?_))
    rotate_left
    · show (w<0/\∀t∈T,t∈ps)\/(w∈T/\w∉ps)
      rcases hw with ⟨e,hj⟩ | hw
      · refine .inl ⟨by omega,fun t ht=> ?_⟩
        obtain ⟨q,hq,e2⟩:=List.getElem_of_mem ht
        have hst:=hst1 (by omega)
        by_cases hc2:st<=(q:Int)
        · have:=hj (q - st.toNat) (by omega)
          rw [show st+((q - st.toNat:Nat):Int)=(q:Int) by omega,Int.emod_eq_of_lt (by omega) (by omega),Int.toNat_natCast,List.getD,List.getElem?_eq_getElem hq] at this
          rw [<-e2];exact this
        · have:=hj (q+T.length - st.toNat) (by omega)
          rw [show st+((q+T.length - st.toNat:Nat):Int)=(q:Int)+(T.length:Int) by omega,Int.add_emod_right,Int.emod_eq_of_lt (by omega) (by omega),Int.toNat_natCast,List.getD,List.getElem?_eq_getElem hq] at this
          rw [<-e2];exact this
      · exact .inr hw
    refine Tot.dite (fun h3=> ?_) (fun h3=> ?_)
    rotate_left
    · refine Tot.exit (Tot.ret ?_)
      show (w<0/\∀t∈T,t∈ps)\/(w∈T/\w∉ps)
      rcases hw with ⟨e,hj⟩ | hw
      · omega
      · exact .inr hw
    have hst:=hst1 (by omega)
    rw [wrap_ok (z:=st+j) (by omega),wrap_ok (z:=j+1) (by omega)]
    refine Tot.rem (by omega) (by omega) ?_
    have hr0:=Int.emod_nonneg (st+j) (b:=(T.length:Int)) (by omega)
    have hr1:=Int.emod_lt_of_pos (st+j) (b:=(T.length:Int)) (by omega)
    refine Tot.gin hr0 hr1 (Tot.get hr0 hr1 fun t ht htm=> ?_)
    obtain ⟨t1,t2,t3,t4⟩:=hTt t htm
    have hw1:w= -1/\∀j' :Nat,(j' :Int)<j->T.getD (((st+j') % (T.length:Int)).toNat) 0∈ps:=by
      rcases hw with q | q
      · exact q
      · have:=(hTt w q.1).2.2.1
        omega
    obtain ⟨tn,rfl⟩:∃tn:Nat,t=(tn:Int):=⟨t.toNat,by omega⟩
    rw [seenA_len]
    refine Tot.gin (by omega) (by omega) ?_
    refine Tot.bindEq (seenA_get _ _ _ (by omega)) ?_
    refine Tot.ndite (fun h4=> ?_) (fun h4=> ?_)
    · exact Tot.next ⟨⟨⟨by simp only;omega,by simp only;omega⟩,.inr ⟨htm,h4⟩⟩,by simp only;omega⟩
    · refine Tot.next ⟨⟨⟨by simp only;omega,by simp only;omega⟩,.inl ⟨hw1.1,fun j' hj' => ?_⟩⟩,by simp only;omega⟩
      simp only at hj'
      by_cases e:(j' :Int)=j
      · rw [e,<-ht];exact h4
      · exact hw1.2 j' (by omega)
  refine Tot.dite (fun h2=> ?_) (fun h2=> ?_)
  · refine Tot.exit (Tot.ret ⟨⟨.inl rfl,fun hf=> ?_⟩,hc'⟩)
    exfalso
    rcases hw with ⟨_,ha⟩ | ⟨hwm,_⟩
    · have f1:=hf (bt kd)
      have f2:=hp.full hd (k:=bt kd) (by rw [hT];exact ha)
      have f3:=count_snoc_le (xs:=ks) (n:=i.toNat) (k:=bt kd) (by omega) (by rw [<-hkd])
      omega
    · have:=(hTt w hwm).2.2.1
      omega
  rcases hw with ⟨hw0,_⟩ | ⟨hwm,hwn⟩
  · omega
  obtain ⟨t1,t2,t3,t4⟩:=hTt w hwm
  obtain ⟨wn,rfl⟩:∃wn:Nat,w=(wn:Int):=⟨w.toNat,by omega⟩
  rw [seenA_len]
  refine Tot.gin (by omega) (by omega) ?_
  refine Tot.bindEq (seenA_get _ _ _ (by omega)) ?_
  have hpl:=hp.len
  rw [List.length_take] at hpl
  refine Tot.app (by simp only [List.length_cons,List.length_nil];omega) (by omega) ?_
  rw [seenA_set _ _ _ (by omega),wrap_ok (z:=i+1) (by omega)]
  refine Tot.next ⟨⟨⟨by simp only;omega,by simp only;omega⟩,hc',?_,rfl⟩,by simp only;omega⟩
  have e1:(i+1).toNat=i.toNat+1:=by omega
  show Pl d (ks.take (i+1).toNat) _
  rw [e1,take_succ' ks i.toNat (by omega)]
  have e2:ks[i.toNat]=kd:=by rw [hkd,List.getD,List.getElem?_eq_getElem (by omega)];rfl
  rw [e2]
  exact hp.snoc t1 (by omega) hwn
theorem kinds_tot {bs:List Blk} (hl:bs.length<=1000):spec_l29Kinds bs=some (bs.map (·.1)):=by
  unfold spec_l29Kinds
  refine loop_upto bs.length (fun k=>((k:Int),(bs.take k).map (·.1))) (fun k hk=> ?_) ?_
  · dsimp only
    rw [dt (by omega),cond_true,gget_nat hk]
    simp only [Option.bind_some]
    rw [gapp_some (by simp only [List.length_map,List.length_take,List.length_cons,List.length_nil];omega) (by simp only [List.length_map,List.length_take,List.length_cons,List.length_nil];omega)]
    simp only [Option.bind_some]
    rw [wrap_ok (by omega),take_succ' bs k hk,List.map_append];rfl
  · dsimp only
    rw [df (by omega),cond_false,List.take_length];rfl
end Go.Pf
