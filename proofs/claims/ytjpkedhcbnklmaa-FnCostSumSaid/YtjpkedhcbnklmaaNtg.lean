/-
  Own work. Draws, plainly: least cuts by flow, labels, depth-optimal mappings.
-/
import Derived.Test.YtjpkedhcbnklmaaNtf
namespace Go.Pf
open Go Go.Pu
set_option linter.unusedVariables false
theorem fan_tot {n:SNet} (h:NOk n) {k:Int} (k0:0<=k) (k1:k<nodesOf n):Tot (spec_l17Fan (n,k)) (fun r=>r.length<=2/\∀x∈r,0<=x/\x<nodesOf n):=by
  unfold spec_l17Fan
  dsimp only
  have hc:=caps_bd h.caps
  refine Tot.bindEq (first_nok h) ?_
  refine Tot.dite (fun _=>Tot.ret ⟨by simp,fun x hx=>(by cases hx)⟩) (fun hf=> ?_)
  refine Tot.bindEq (first_nok h) ?_
  rw [wrap_ok (z:=k - firstOf n) (by omega)]
  refine Tot.get (by omega) (by omega) fun a ha _=> ?_
  have hl:=and_at h (show 0<=k - firstOf n by omega) (by omega)
  rw [<-ha] at hl
  unfold Lit at hl
  refine Tot.dite (fun _=> ?_) (fun _=> ?_)
  · refine Tot.div2 (by omega) (by omega) ?_
    refine Tot.app (by simp) (by omega) ?_
    refine Tot.dite (fun _=> ?_) (fun _=> ?_)
    · refine Tot.div2 (by omega) (by omega) ?_
      refine Tot.app (by simp) (by omega) ?_
      refine Tot.ret ⟨by simp,fun x hx=> ?_⟩
      simp only [List.nil_append,List.cons_append,List.mem_cons,List.not_mem_nil,or_false] at hx
      rcases hx with rfl | rfl<;>omega
    · refine Tot.ret ⟨by simp,fun x hx=> ?_⟩
      simp only [List.nil_append,List.mem_cons,List.not_mem_nil,or_false] at hx
      subst hx;omega
  · refine Tot.dite (fun _=> ?_) (fun _=>Tot.ret ⟨by simp,fun x hx=>(by cases hx)⟩)
    refine Tot.div2 (by omega) (by omega) ?_
    refine Tot.app (by simp) (by omega) ?_
    refine Tot.ret ⟨by simp,fun x hx=> ?_⟩
    simp only [List.nil_append,List.mem_cons,List.not_mem_nil,or_false] at hx
    subst hx;omega
structure SI (M:Nat) (b q:List Int):Prop where
  len:b.length=M
  mem:∀x∈q,(0<=x/\x<(M:Int))/\b.getD x.toNat 0≠-2
  chain:∀j,j<q.length->b.getD (q.getD j 0).toNat 0= -1\/∃i,i<j/\b.getD (q.getD j 0).toNat 0=q.getD i 0
  cnt:q.length+b.count (-2)=M
theorem count_set:∀(b:List Int) (i:Nat) (v:Int),i<b.length->b.getD i 0= -2->v≠-2->(b.set i v).count (-2)+1=b.count (-2)
  | [],i,v,h,_,_=>by simp at h
  | x::b,0,v,_,h,hv=>by
    simp at h
    subst h
    simp [List.count_cons,hv]
  | x::b,i+1,v,h,h2,hv=>by
    have ih:=count_set b i v (by simpa using h) (by simpa using h2) hv
    simp only [List.set_cons_succ,List.count_cons]
    omega
theorem getD_app_l {xs ys:List Int} {i:Nat} (h:i<xs.length):(xs++ys).getD i 0=xs.getD i 0:=by
  simp [List.getD,List.getElem?_append_left h]
theorem SI.qlen {M:Nat} {b q:List Int} (h:SI M b q):q.length<=M:=by have:=h.cnt;omega
theorem SI.push {M:Nat} {b q:List Int} (h:SI M b q) {x v:Int} (x0:0<=x/\x<(M:Int)) (hx:b.getD x.toNat 0= -2) (hv:v= -1\/v∈q):SI M (gset b x v) (q++[x]):=by
  have hv2:v≠-2:=by
    rcases hv with rfl | hv
    · omega
    · have:=(h.mem v hv).1;omega
  have hxl:x.toNat<b.length:=by rw [h.len];omega
  have hne:∀y∈q,y.toNat≠x.toNat:=fun y hy e=>by
    have:=(h.mem y hy).2
    rw [e,hx] at this
    exact this rfl
  have g1:∀y∈q,(gset b x v).getD y.toNat 0=b.getD y.toNat 0:=fun y hy=>by
    unfold gset
    rw [List.getD,List.getElem?_set_ne (Ne.symm (hne y hy))];rfl
  have g2:(gset b x v).getD x.toNat 0=v:=by
    unfold gset
    rw [List.getD,List.getElem?_set_self hxl];rfl
  refine ⟨by rw [gset_len];exact h.len,fun y hy=> ?_,fun j hj=> ?_,?_⟩
  · rcases List.mem_append.1 hy with hy | hy
    · rw [g1 y hy];exact h.mem y hy
    · rw [List.mem_singleton.1 hy,g2];exact ⟨x0,hv2⟩
  · rw [List.length_append,List.length_singleton] at hj
    by_cases c:j<q.length
    · rw [getD_app_l c,g1 _ (getD_mem c)]
      rcases h.chain j c with e | ⟨i,hi,e⟩
      · exact .inl e
      · exact .inr ⟨i,hi,by rw [e,getD_app_l (by omega)]⟩
    · have e:j=q.length:=by omega
      subst e
      have e2:(q++[x]).getD q.length 0=x:=by simp [List.getD]
      rw [e2,g2]
      rcases hv with rfl | hv
      · exact .inl rfl
      · obtain ⟨i,hi,rfl⟩:=List.getElem_of_mem hv
        exact .inr ⟨i,hi,by rw [getD_app_l hi,List.getD,List.getElem?_eq_getElem hi];rfl⟩
  · have:=count_set b x.toNat v hxl hx hv2
    have h2:=h.cnt
    unfold gset
    rw [List.length_append,List.length_singleton];omega
theorem SI.start (M:Nat):SI M (List.replicate M (-2)) []:=⟨by simp,fun x hx=>(by cases hx),fun j hj=>by simp at hj,by simp⟩
theorem SI.back {M:Nat} {b q:List Int} (h:SI M b q) {x:Int} (hx:x∈q):b.getD x.toNat 0= -1\/(b.getD x.toNat 0∈q/\q.idxOf (b.getD x.toNat 0)<q.idxOf x):=by
  have hj:q.idxOf x<q.length:=List.idxOf_lt_length_of_mem hx
  have e:q.getD (q.idxOf x) 0=x:=by
    rw [List.getD,List.getElem?_eq_getElem hj,List.getElem_idxOf];rfl
  have hc:=h.chain _ hj
  rw [e] at hc
  rcases hc with hc | ⟨i,hi,hc⟩
  · exact .inl hc
  · right
    have hil:i<q.length:=by omega
    have hm:q.getD i 0∈q:=getD_mem hil
    rw [hc]
    refine ⟨hm,Nat.lt_of_le_of_lt ?_ hi⟩
    have e2:q.getD i 0=q[i]:=by rw [List.getD,List.getElem?_eq_getElem hil];rfl
    rw [e2]
    by_cases c:q.idxOf q[i]<=i
    · exact c
    · exfalso
      have:=List.not_of_lt_findIdx (xs:=q) (p:=fun y=>y==q[i]) (i:=i) (by unfold List.idxOf at c;omega)
      simp at this
def AbOk (n:SNet) (ab:List Int):Prop:=(ab.length:Int)=nodesOf n/\∀y∈ab,-1<=y/\y<nodesOf n
theorem search_tot {n:SNet} (h:NOk n) {up us:List Bool} {ab:List Int} (hu:(up.length:Int)=nodesOf n) (hs:(us.length:Int)=nodesOf n) (ha:AbOk n ab):Tot (spec_l17Search (n,(up,(us,ab)))) (fun r=>∃q,SI (2*nodesOf n).toNat r.1 q/\(r.2= -1\/r.2∈q)):=by
  unfold spec_l17Search
  dsimp only
  have hc:=caps_bd h.caps
  obtain ⟨M,hM⟩:∃M:Nat,2*nodesOf n=(M:Int):=⟨(2*nodesOf n).toNat,by omega⟩
  have hM2:(2*nodesOf n).toNat=M:=by omega
  rw [hM2]
  refine Tot.lp (fun s=>(0<=s.1/\s.1<=(M:Int))/\s.2=List.replicate s.1.toNat (-2)) (fun s=>((M:Int) - s.1).toNat) ⟨⟨by simp only;omega,by simp only;omega⟩,by simp⟩ (fun s hs0=> ?_)
  obtain ⟨i,b⟩:=s
  obtain ⟨⟨i0,i1⟩,hb⟩:=hs0
  simp only at i0 i1 hb
  refine Tot.bindEq (nodeCount_nok h) ?_
  dsimp only
  rw [wrap_ok (z:=2*nodesOf n) (by omega)]
  refine Tot.dite (fun h1=> ?_) (fun h1=> ?_)
  · subst hb
    refine Tot.app (by simp only [List.length_singleton,List.length_replicate];omega) (by omega) ?_
    rw [wrap_ok (z:=i+1) (by omega)]
    refine Tot.next ⟨⟨⟨by simp only;omega,by simp only;omega⟩,?_⟩,by simp only;omega⟩
    simp only
    rw [show (i+1).toNat=i.toNat+1 by omega,List.replicate_succ']
  refine Tot.exit ?_
  have hiM:i.toNat=M:=by omega
  rw [hiM] at hb
  clear h1 i0 i1
  refine Tot.lp (fun s=>(0<=s.1/\s.1<=nodesOf n)/\SI M s.2.1 s.2.2) (fun s=>(nodesOf n - s.1).toNat) ⟨⟨by simp only;omega,by simp only;omega⟩,by simp only;rw [hb];exact SI.start M⟩ (fun s hs0=> ?_)
  obtain ⟨k,b1,q1⟩:=s
  obtain ⟨⟨k0,k1⟩,hsi⟩:=hs0
  simp only at k0 k1 hsi
  refine Tot.bindEq (nodeCount_nok h) ?_
  dsimp only
  refine Tot.dite (fun h1=> ?_) (fun h1=> ?_)
  · refine Tot.bind (fan_tot h k0 h1) fun fan hfan=> ?_
    refine Tot.join (A:=fun a:List Int×List Int=>SI M a.1 a.2) ?_ fun a ha2=> ?_
    · refine Tot.lp (fun s=>(0<=s.1/\s.1<=(fan.length:Int))/\SI M s.2.1 s.2.2) (fun s=>((fan.length:Int) - s.1).toNat) ⟨⟨by simp only;omega,by simp only;omega⟩,hsi⟩ (fun s hs0=> ?_)
      obtain ⟨j,b2,q2⟩:=s
      obtain ⟨⟨j0,j1⟩,hsi2⟩:=hs0
      simp only at j0 j1 hsi2
      dsimp only
      have hql:=hsi2.qlen
      have hbl:=hsi2.len
      have ex:∀{β:Type} {A:β->Prop} {Q:((Int×(List Int×List Int))⊕(List Int×Int))->Prop},Tot (Option.map (Sum.inr:((List Int×List Int)⊕((Int×(List Int×List Int))⊕(List Int×Int)))->β⊕_) (some (.inl (b2,q2)))) (SumP A (SumP (fun a:List Int×List Int=>SI M a.1 a.2) Q)):=Tot.exit (Tot.next hsi2)
      refine Tot.dite (fun h2=> ?_) (fun h2=>ex)
      rw [wrap_ok (z:=j+1) (by omega)]
      refine Tot.get k0 (by omega) fun _ _ _=> ?_
      refine Tot.ite (fun _=> ?_) (fun _=>ex)
      refine Tot.gin j0 h2 (Tot.get j0 h2 fun x hx hxm=> ?_)
      have hxr:=hfan.2 x hxm
      refine Tot.get hxr.1 (by omega) fun _ _ _=> ?_
      refine Tot.nite (fun _=> ?_) (fun _=> ?_)
      · refine Tot.gin j0 h2 (Tot.get j0 h2 fun x2 hx2 _=> ?_)
        have e:x2=x:=by rw [hx,hx2]
        subst e
        rw [wrap_ok (z:=2*x2) (by omega)]
        refine Tot.gin (by omega) (by omega) (Tot.get (by omega) (by omega) fun y hy _=> ?_)
        refine Tot.dite (fun hy2=> ?_) (fun _=> ?_)
        · refine Tot.gin j0 h2 (Tot.get j0 h2 fun x3 hx3 _=> ?_)
          have e:x3=x2:=by rw [hx,hx3]
          subst e
          rw [wrap_ok (z:=2*x3) (by omega)]
          refine Tot.gin (by omega) (by omega) (Tot.get (by omega) (by omega) fun _ _ _=> ?_)
          refine Tot.gin j0 h2 (Tot.get j0 h2 fun x4 hx4 _=> ?_)
          have e:x4=x3:=by rw [hx,hx4]
          subst e
          rw [wrap_ok (z:=2*x4) (by omega)]
          refine Tot.app (by simp only [List.length_singleton];omega) (by omega) ?_
          exact Tot.next ⟨⟨⟨by simp only;omega,by simp only;omega⟩,hsi2.push (by omega) (by rw [<-hy];exact hy2) (.inl rfl)⟩,by simp only;omega⟩
        · exact Tot.next ⟨⟨⟨by simp only;omega,by simp only;omega⟩,hsi2⟩,by simp only;omega⟩
      · exact Tot.next ⟨⟨⟨by simp only;omega,by simp only;omega⟩,hsi2⟩,by simp only;omega⟩
    · rw [wrap_ok (z:=k+1) (by omega)]
      exact Tot.next ⟨⟨⟨by simp only;omega,by simp only;omega⟩,ha2⟩,by simp only;omega⟩
  refine Tot.exit ?_
  clear h1 k0 k1
  refine Tot.lp (fun s=>(0<=s.1/\s.1<=(s.2.2.length:Int))/\SI M s.2.1 s.2.2) (fun s=>((M:Int) - s.1).toNat) ⟨⟨by simp only;omega,by simp only;omega⟩,hsi⟩ (fun s hs0=> ?_)
  obtain ⟨c,b2,q2⟩:=s
  obtain ⟨⟨c0,c1⟩,hsi2⟩:=hs0
  simp only at c0 c1 hsi2
  have hql:=hsi2.qlen
  have hbl:=hsi2.len
  dsimp only
  refine Tot.dite (fun h1=> ?_) (fun h1=>Tot.exit (Tot.ret ⟨q2,hsi2,.inl rfl⟩))
  refine Tot.gin c0 h1 (Tot.get c0 h1 fun x hx hxm=> ?_)
  have hxr:=(hsi2.mem x hxm).1
  refine Tot.div2 (by omega) (by omega) ?_
  have hk:0<=x/2/\x/2<nodesOf n:=by omega
  refine Tot.join (A:=fun nx:List Int=>nx.length<=3/\∀y∈nx,0<=y/\y<(M:Int)) ?_ fun nx hnx=> ?_
  · refine Tot.gin c0 h1 (Tot.get c0 h1 fun x2 hx2 _=> ?_)
    have e:x2=x:=by rw [hx,hx2]
    subst e
    refine Tot.rem (by omega) (by omega) ?_
    refine Tot.dite (fun _=> ?_) (fun _=> ?_)
    · refine Tot.get hk.1 (by omega) fun _ _ _=> ?_
      refine Tot.nite (fun _=> ?_) (fun _=> ?_)
      · rw [wrap_ok (z:=2*(x2/2)) (by omega),wrap_ok (z:=2*(x2/2)+1) (by omega)]
        refine Tot.app (by simp) (by omega) ?_
        refine Tot.next ⟨by simp,fun y hy=> ?_⟩
        simp only [List.nil_append,List.mem_singleton] at hy
        subst hy;omega
      · refine Tot.get hk.1 (by rw [ha.1];omega) fun w hw _=> ?_
        refine Tot.dite (fun hw0=> ?_) (fun _=>Tot.next ⟨by simp,fun y hy=>(by cases hy)⟩)
        refine Tot.get hk.1 (by rw [ha.1];omega) fun w2 hw2 hwm=> ?_
        have e:w2=w:=by rw [hw,hw2]
        subst e
        have hwr:=ha.2 w2 hwm
        rw [wrap_ok (z:=2*w2) (by omega),wrap_ok (z:=2*w2+1) (by omega)]
        refine Tot.app (by simp) (by omega) ?_
        refine Tot.next ⟨by simp,fun y hy=> ?_⟩
        simp only [List.nil_append,List.mem_singleton] at hy
        subst hy;omega
    · refine Tot.bindEq (first_nok h) ?_
      refine Tot.dite (fun _=> ?_) (fun _=> ?_)
      · refine Tot.gin c0 h1 (Tot.get c0 h1 fun x3 hx3 hx3m=> ?_)
        exact Tot.exit (Tot.exit (Tot.ret ⟨q2,hsi2,.inr hx3m⟩))
      · refine Tot.bind (fan_tot h hk.1 hk.2) fun fan hfan=> ?_
        refine Tot.lp (fun s=>(0<=s.1/\s.1<=(fan.length:Int))/\(s.2.length:Int)=s.1/\∀y∈s.2,0<=y/\y<(M:Int)) (fun s=>((fan.length:Int) - s.1).toNat) ⟨⟨by simp only;omega,by simp only;omega⟩,by simp,fun y hy=>(by cases hy)⟩ (fun s hs0=> ?_)
        obtain ⟨j,nx⟩:=s
        obtain ⟨⟨j0,j1⟩,hnl,hny⟩:=hs0
        simp only at j0 j1 hnl hny
        have hf2:=hfan.1
        dsimp only
        refine Tot.dite (fun h2=> ?_) (fun h2=> ?_)
        · refine Tot.gin j0 h2 (Tot.get j0 h2 fun y hy hym=> ?_)
          have hyr:=hfan.2 y hym
          rw [wrap_ok (z:=2*y) (by omega),wrap_ok (z:=j+1) (by omega)]
          refine Tot.app (by simp only [List.length_singleton];omega) (by omega) ?_
          refine Tot.next ⟨⟨⟨by simp only;omega,by simp only;omega⟩,by simp only [List.length_append,List.length_singleton];omega,fun z hz=> ?_⟩,by simp only;omega⟩
          rcases List.mem_append.1 hz with hz | hz
          · exact hny z hz
          · rw [List.mem_singleton.1 hz];omega
        · refine Tot.exit ?_
          refine Tot.get hk.1 (by omega) fun _ _ _=> ?_
          refine Tot.ite (fun _=> ?_) (fun _=> ?_)
          · rw [wrap_ok (z:=2*(x2/2)) (by omega)]
            refine Tot.app (by simp only [List.length_singleton];omega) (by omega) ?_
            refine Tot.next ⟨by simp only [List.length_append,List.length_singleton];omega,fun z hz=> ?_⟩
            rcases List.mem_append.1 hz with hz | hz
            · exact hny z hz
            · rw [List.mem_singleton.1 hz];omega
          · exact Tot.next ⟨by omega,hny⟩
  · refine Tot.lp (fun s=>(0<=s.1/\s.1<=(nx.length:Int))/\SI M s.2.1 s.2.2/\c<(s.2.2.length:Int)) (fun s=>((nx.length:Int) - s.1).toNat) ⟨⟨by simp only;omega,by simp only;omega⟩,hsi2,h1⟩ (fun s hs0=> ?_)
    obtain ⟨j,b3,q3⟩:=s
    obtain ⟨⟨j0,j1⟩,hsi3,hcq⟩:=hs0
    simp only at j0 j1 hsi3 hcq
    have hql3:=hsi3.qlen
    have hbl3:=hsi3.len
    have hn3:=hnx.1
    dsimp only
    refine Tot.dite (fun h2=> ?_) (fun h2=> ?_)
    · rw [wrap_ok (z:=j+1) (by omega)]
      refine Tot.gin j0 h2 (Tot.get j0 h2 fun y hy hym=> ?_)
      have hyr:=hnx.2 y hym
      refine Tot.gin hyr.1 (by omega) (Tot.get hyr.1 (by omega) fun w hw _=> ?_)
      refine Tot.dite (fun hw2=> ?_) (fun _=> ?_)
      · refine Tot.gin j0 h2 (Tot.get j0 h2 fun y2 hy2 _=> ?_)
        have e:y2=y:=by rw [hy,hy2]
        subst e
        refine Tot.gin c0 hcq (Tot.get c0 hcq fun z _ hzm=> ?_)
        refine Tot.gin hyr.1 (by omega) (Tot.get hyr.1 (by omega) fun _ _ _=> ?_)
        refine Tot.gin j0 h2 (Tot.get j0 h2 fun y3 hy3 _=> ?_)
        have e:y3=y2:=by rw [hy,hy3]
        subst e
        refine Tot.app (by simp only [List.length_singleton];omega) (by omega) ?_
        exact Tot.next ⟨⟨⟨by simp only;omega,by simp only;omega⟩,hsi3.push hyr (by rw [<-hw];exact hw2) (.inr hzm),by simp only [List.length_append,List.length_singleton];omega⟩,by simp only;omega⟩
      · exact Tot.next ⟨⟨⟨by simp only;omega,by simp only;omega⟩,hsi3,hcq⟩,by simp only;omega⟩
    · refine Tot.exit ?_
      rw [wrap_ok (z:=c+1) (by omega)]
      exact Tot.next ⟨⟨⟨by simp only;omega,by simp only;omega⟩,hsi3⟩,by simp only;omega⟩
end Go.Pf
