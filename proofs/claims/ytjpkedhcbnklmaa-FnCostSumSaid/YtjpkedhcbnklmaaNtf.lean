/-
  Own work. Draws, plainly: LUT networks out of mapped nets.
-/
import Derived.Test.YtjpkedhcbnklmaaNte
namespace Go.Pf
open Go Go.Pu
set_option linter.unusedVariables false
structure LB (l:Net):Prop where
  sq:l.2.1.length<=1000
  ins:∀s∈l.2.1,List.length s.2.2<=1000
  lt:l.2.2.1.length<=1000
  lins:∀x∈l.2.2.1,List.length x.1<=1000
  ot:l.2.2.2.length<=1000
theorem LB.netB {l:Net} (h:LB l):NetB l:=by
  obtain ⟨h1,h2,h3,h4,h5⟩:=h
  refine ⟨⟨by omega,fun s hs=> ?_⟩,⟨by omega,fun x hx=> ?_⟩,by omega⟩
  · have:=h2 s hs
    unfold SeqB;omega
  · have:=h4 x hx
    unfold LutB;omega
theorem lb_empty:LB (0,([],([],[]))):=⟨by simp,fun s hs=>(by cases hs),by simp,fun s hs=>(by cases hs),by simp⟩
theorem toLuts_tot {n:SNet} (h:NB n) {cuts:List (List Int)} (hl:∀c∈cuts,c.length<=1000):Tot (spec_ToLuts (n,cuts)) (fun r=>LB r.1):=by
  unfold spec_ToLuts
  dsimp only
  refine Tot.bind (mapOk_tot h hl) fun b hb=> ?_
  refine Tot.nite (fun _=>Tot.ret lb_empty) (fun hbt=> ?_)
  obtain ⟨hn,hlen,hcut⟩:=hb hbt
  have hc:=caps_bd hn.caps
  have han:=hn.an
  have hsq:=hn.sq
  have hot:=hn.ot
  have cutAt:∀{i:Int} {c:List Int},0<=i->i<(cuts.length:Int)->c=cuts.getD i.toNat []->c.length<=4/\∀x∈c,0<=x/\x<firstOf n+i:=fun {i c} i0 i1 e=>by
    have:=hcut i.toNat (by omega)
    rw [<-e] at this
    have e2:(i.toNat:Int)=i:=by omega
    rw [e2] at this
    exact this
  refine Tot.bindEq (nodeCount_nok hn) ?_
  refine Tot.bindEq (first_nok hn) ?_
  refine Tot.make (by omega) (by omega) (by omega) ?_
  refine Tot.make (by omega) (by omega) (by omega) ?_
  refine Tot.bindEq (roots_ok h) ?_
  have hrl:(rootsOf n).length<=1001000:=roots_len h _
  have hri:∀x∈rootsOf n,Lit x (nodesOf n):=fun x hx=>by
    rcases roots_mem.1 hx with q | ⟨s,hs,q⟩
    · exact hn.outs x q
    · exact (hn.ins s hs).2 x q
  refine Tot.lp (fun s=>(0<=s.1/\s.1<=((rootsOf n).length:Int))/\(s.2.1.length:Int)=nodesOf n/\(s.2.2.length:Int)=nodesOf n) (fun s=>(((rootsOf n).length:Int) - s.1).toNat) ⟨⟨by simp only;omega,by simp only;omega⟩,by simp only [List.length_replicate];omega,by simp only [List.length_replicate];omega⟩ (fun s hs=> ?_)
  obtain ⟨i,pos,neg⟩:=s
  obtain ⟨⟨i0,i1⟩,hp,hg⟩:=hs
  simp only at i0 i1 hp hg
  dsimp only
  refine Tot.dite (fun h1=> ?_) (fun h1=> ?_)
  · rw [wrap_ok (z:=i+1) (by omega)]
    refine Tot.gin i0 h1 (Tot.get i0 h1 fun x hx hm=> ?_)
    have hxl:=hri x hm
    unfold Lit at hxl
    refine Tot.rem (by omega) (by omega) ?_
    refine Tot.dite (fun _=> ?_) (fun _=> ?_)
    · refine Tot.gin i0 h1 (Tot.get i0 h1 fun y hy _=> ?_)
      have e:y=x:=by rw [hx,hy]
      subst e
      refine Tot.div2 (by omega) (by omega) ?_
      refine Tot.gin (by omega) (by omega) (Tot.get (by omega) (by omega) fun _ _ _=> ?_)
      exact Tot.next ⟨⟨⟨by simp only;omega,by simp only;omega⟩,by simp only [gset_len];exact hp,hg⟩,by simp only;omega⟩
    · refine Tot.gin i0 h1 (Tot.get i0 h1 fun y hy _=> ?_)
      have e:y=x:=by rw [hx,hy]
      subst e
      refine Tot.div2 (by omega) (by omega) ?_
      refine Tot.gin (by omega) (by omega) (Tot.get (by omega) (by omega) fun _ _ _=> ?_)
      exact Tot.next ⟨⟨⟨by simp only;omega,by simp only;omega⟩,hp,by simp only [gset_len];exact hg⟩,by simp only;omega⟩
  refine Tot.exit ?_
  clear h1 i0 i1
  rw [wrap_ok (by omega)]
  refine Tot.lp (fun s=>(-1<=s.1/\s.1<(cuts.length:Int))/\(s.2.length:Int)=nodesOf n) (fun s=>(s.1+1).toNat) ⟨⟨by simp only;omega,by simp only;omega⟩,hp⟩ (fun s hs=> ?_)
  obtain ⟨i,need⟩:=s
  obtain ⟨⟨i0,i1⟩,hnd⟩:=hs
  simp only at i0 i1 hnd
  dsimp only
  refine Tot.dite (fun h1=> ?_) (fun h1=> ?_)
  · refine Tot.join (A:=fun a:List Bool=>(a.length:Int)=nodesOf n) ?_ fun a ha=> ?_
    · refine Tot.lp (fun s=>(0<=s.1/\s.1<=4)/\(s.2.length:Int)=nodesOf n) (fun s=>(4 - s.1).toNat) ⟨⟨by simp only;omega,by simp only;omega⟩,hnd⟩ (fun s hs=> ?_)
      obtain ⟨k,nd⟩:=s
      obtain ⟨⟨k0,k1⟩,hk⟩:=hs
      simp only at k0 k1 hk
      dsimp only
      refine Tot.get h1 i1 fun c hcd hm=> ?_
      obtain ⟨hc4,hcx⟩:=cutAt h1 i1 hcd
      refine Tot.dite (fun h2=> ?_) (fun h2=>Tot.exit (Tot.next hk))
      rw [wrap_ok (z:=firstOf n+i) (by omega),wrap_ok (z:=k+1) (by omega)]
      refine Tot.gin (by omega) (by omega) (Tot.get (by omega) (by omega) fun _ _ _=> ?_)
      have inner:Tot (((gget [] cuts i).bind fun v25=>(gget 0 v25 k).bind fun v26=>(gin nd.length v26).bind fun _=>(gget false nd v26).bind fun v28=>some (Sum.inl (k+1,gset nd v26 true):(Int×List Bool)⊕(List Bool⊕((Int×List Bool)⊕(Net×Bool))))))
          (SumP (fun s' =>((0<=s'.1/\s'.1<=4)/\(s'.2.length:Int)=nodesOf n)/\(4 - s'.1).toNat<(4 - k).toNat) (SumP (fun a:List Bool=>(a.length:Int)=nodesOf n) (SumP (fun s' =>((-1<=s'.1/\s'.1<(cuts.length:Int))/\(s'.2.length:Int)=nodesOf n)/\(s'.1+1).toNat<(i+1).toNat) (fun r=>LB r.1)))):=by
        refine Tot.get h1 i1 fun c2 hc2 _=> ?_
        have e:c2=c:=by rw [hcd,hc2]
        subst e
        refine Tot.get k0 h2 fun x _ hxm=> ?_
        have hx:=hcx x hxm
        refine Tot.gin (by omega) (by omega) (Tot.get (by omega) (by omega) fun _ _ _=> ?_)
        exact Tot.next ⟨⟨⟨by simp only;omega,by simp only;omega⟩,by simp only [gset_len];exact hk⟩,by simp only;omega⟩
      refine Tot.ite (fun _=>inner) (fun _=> ?_)
      refine Tot.gin (by omega) (by omega) (Tot.get (by omega) (by omega) fun _ _ _=> ?_)
      refine Tot.ite (fun _=>inner) (fun _=>Tot.exit (Tot.next hk))
    · rw [wrap_ok (z:=i - 1) (by omega)]
      exact Tot.next ⟨⟨⟨by simp only;omega,by simp only;omega⟩,ha⟩,by simp only;omega⟩
  refine Tot.exit ?_
  clear h1 i0 i1
  refine Tot.make (by omega) (by omega) (by omega) ?_
  refine Tot.lp (fun s=>(0<=s.1/\s.1<=firstOf n)/\(s.2.length:Int)=s.1) (fun s=>(firstOf n - s.1).toNat) ⟨⟨by simp only;omega,by simp only;omega⟩,by simp⟩ (fun s hs=> ?_)
  obtain ⟨i,to⟩:=s
  obtain ⟨⟨i0,i1⟩,hto⟩:=hs
  simp only at i0 i1 hto
  dsimp only
  refine Tot.dite (fun h1=> ?_) (fun h1=> ?_)
  · refine Tot.app (by simp only [List.length_singleton];omega) (by omega) ?_
    rw [wrap_ok (z:=i+1) (by omega)]
    exact Tot.next ⟨⟨⟨by simp only;omega,by simp only;omega⟩,by simp only [List.length_append,List.length_singleton];omega⟩,by simp only;omega⟩
  refine Tot.exit ?_
  have hto:(to.length:Int)=firstOf n:=by omega
  clear h1 i0 i1
  refine Tot.lp (fun s=>(0<=s.1/\s.1<=(cuts.length:Int))/\(s.2.2.length:Int)=firstOf n+s.1/\(s.2.1.length:Int)<=s.1/\∀x∈s.2.1,List.length x.1<=4) (fun s=>((cuts.length:Int) - s.1).toNat) ⟨⟨by simp only;omega,by simp only;omega⟩,by simp only;omega,by simp,fun x hx=>(by cases hx)⟩ (fun s hs=> ?_)
  obtain ⟨i,luts,to2⟩:=s
  obtain ⟨⟨i0,i1⟩,ht2,hll,hlx⟩:=hs
  simp only at i0 i1 ht2 hll hlx
  dsimp only
  refine Tot.dite (fun h1=> ?_) (fun h1=> ?_)
  · refine Tot.app (by simp only [List.length_singleton];omega) (by omega) ?_
    rw [wrap_ok (z:=firstOf n+i) (by omega),wrap_ok (z:=i+1) (by omega)]
    refine Tot.gin (by omega) (by omega) (Tot.get (by omega) (by omega) fun _ _ _=> ?_)
    refine Tot.ite (fun _=> ?_) (fun _=> ?_)
    · refine Tot.get i0 h1 fun c hcd hm=> ?_
      obtain ⟨hc4,hcx⟩:=cutAt i0 h1 hcd
      refine Tot.bind (cutTable_tot h (by omega)) fun t _=> ?_
      refine Tot.get i0 h1 fun c2 hc2 _=> ?_
      have e:c2=c:=by rw [hcd,hc2]
      subst e
      refine Tot.bind (nodes20_tot (by omega) (fun x hx=> ?_)) fun r hr=> ?_
      · have:=hcx x hx
        rw [List.length_append,List.length_singleton];omega
      refine Tot.app (by simp only [List.length_singleton];omega) (by omega) ?_
      refine Tot.next ⟨⟨⟨by simp only;omega,by simp only;omega⟩,by simp only [List.length_append,List.length_singleton];omega,by simp only [List.length_append,List.length_singleton];omega,fun x hx=> ?_⟩,by simp only;omega⟩
      rcases List.mem_append.1 hx with hx | hx
      · exact hlx x hx
      · rw [List.mem_singleton.1 hx];simp only;omega
    · exact Tot.next ⟨⟨⟨by simp only;omega,by simp only;omega⟩,by simp only [List.length_append,List.length_singleton];omega,by simp only;omega,hlx⟩,by simp only;omega⟩
  refine Tot.exit ?_
  have ht2:(to2.length:Int)=nodesOf n:=by omega
  have hll:luts.length<=300:=by omega
  clear h1 i0 i1
  refine Tot.lp (fun s=>(0<=s.1/\s.1<=nodesOf n)/\(s.2.1.length:Int)=nodesOf n/\(s.2.2.length:Int)<=300+s.1/\∀x∈s.2.2,List.length x.1<=4) (fun s=>(nodesOf n - s.1).toNat) ⟨⟨by simp only;omega,by simp only;omega⟩,by simp only [List.length_replicate];omega,by simp only;omega,hlx⟩ (fun s hs=> ?_)
  obtain ⟨k,ng,ls⟩:=s
  obtain ⟨⟨k0,k1⟩,hng,hls,hlsx⟩:=hs
  simp only at k0 k1 hng hls hlsx
  dsimp only
  refine Tot.dite (fun h1=> ?_) (fun h1=> ?_)
  · rw [wrap_ok (z:=k+1) (by omega)]
    refine Tot.gin (by omega) (by omega) (Tot.get (by omega) (by omega) fun _ _ _=> ?_)
    refine Tot.nite (fun _=> ?_) (fun _=> ?_)
    · exact Tot.next ⟨⟨⟨by simp only;omega,by simp only;omega⟩,hng,by simp only;omega,hlsx⟩,by simp only;omega⟩
    refine Tot.gin (by omega) (by omega) (Tot.get (by omega) (by omega) fun _ _ _=> ?_)
    refine Tot.dite (fun hkf=> ?_) (fun _=> ?_)
    · rw [wrap_ok (z:=k - firstOf n) (by omega)]
      refine Tot.get (by omega) (by omega) fun c hcd hm=> ?_
      obtain ⟨hc4,hcx⟩:=cutAt (show 0<=k - firstOf n by omega) (by omega) hcd
      refine Tot.bind (cutTable_tot h (by omega)) fun t _=> ?_
      refine Tot.bind (tableNot_tot t) fun t2 _=> ?_
      refine Tot.get (by omega) (by omega) fun c2 hc2 _=> ?_
      have e:c2=c:=by rw [hcd,hc2]
      subst e
      refine Tot.bind (nodes20_tot (by omega) (fun x hx=> ?_)) fun r hr=> ?_
      · have:=hcx x hx;omega
      refine Tot.app (by simp only [List.length_singleton];omega) (by omega) ?_
      refine Tot.next ⟨⟨⟨by simp only;omega,by simp only;omega⟩,by simp only [gset_len];exact hng,by simp only [List.length_append,List.length_singleton];omega,fun x hx=> ?_⟩,by simp only;omega⟩
      rcases List.mem_append.1 hx with hx | hx
      · exact hlsx x hx
      · rw [List.mem_singleton.1 hx];simp only;omega
    · refine Tot.dite (fun _=> ?_) (fun _=> ?_)
      · refine Tot.app (by simp only [List.length_singleton];omega) (by omega) ?_
        refine Tot.next ⟨⟨⟨by simp only;omega,by simp only;omega⟩,by simp only [gset_len];exact hng,by simp only [List.length_append,List.length_singleton];omega,fun x hx=> ?_⟩,by simp only;omega⟩
        rcases List.mem_append.1 hx with hx | hx
        · exact hlsx x hx
        · rw [List.mem_singleton.1 hx];simp
      · refine Tot.app (by simp only [List.length_singleton];omega) (by omega) ?_
        refine Tot.next ⟨⟨⟨by simp only;omega,by simp only;omega⟩,by simp only [gset_len];exact hng,by simp only [List.length_append,List.length_singleton];omega,fun x hx=> ?_⟩,by simp only;omega⟩
        rcases List.mem_append.1 hx with hx | hx
        · exact hlsx x hx
        · rw [List.mem_singleton.1 hx];simp
  refine Tot.exit ?_
  have hls:ls.length<=700:=by omega
  clear h1 k0 k1
  refine Tot.lp (fun s=>(0<=s.1/\s.1<=(n.2.1.length:Int))/\(s.2.length:Int)<=s.1/\∀x∈s.2,List.length x.2.2<=4) (fun s=>((n.2.1.length:Int) - s.1).toNat) ⟨⟨by simp only;omega,by simp only;omega⟩,by simp,fun x hx=>(by cases hx)⟩ (fun s hs=> ?_)
  obtain ⟨i,sq⟩:=s
  obtain ⟨⟨i0,i1⟩,hl2,hx2⟩:=hs
  simp only at i0 i1 hl2 hx2
  dsimp only
  refine Tot.dite (fun h1=> ?_) (fun h1=> ?_)
  · refine Tot.get i0 h1 fun a _ _=> ?_
    refine Tot.get i0 h1 fun b2 _ _=> ?_
    refine Tot.get i0 h1 fun y _ hym=> ?_
    have hyi:=hn.ins y hym
    refine Tot.bind (roots20_tot (by omega) ht2 hng hyi.2 (by omega)) fun r hr=> ?_
    refine Tot.app (by simp only [List.length_singleton];omega) (by omega) ?_
    rw [wrap_ok (z:=i+1) (by omega)]
    refine Tot.next ⟨⟨⟨by simp only;omega,by simp only;omega⟩,by simp only [List.length_append,List.length_singleton];omega,fun x hx=> ?_⟩,by simp only;omega⟩
    rcases List.mem_append.1 hx with hx | hx
    · exact hx2 x hx
    · rw [List.mem_singleton.1 hx];simp only;omega
  refine Tot.exit ?_
  refine Tot.bind (roots20_tot (by omega) ht2 hng hn.outs (by omega)) fun r hr=> ?_
  exact Tot.ret ⟨by simp only;omega,fun s hs=>by have:=hx2 s hs;omega,by simp only;omega,fun x hx=>by have:=hlsx x hx;omega,by simp only;omega⟩
end Go.Pf
