/-
  Own work. Draws, plainly: least cuts, labels, depth-optimal mappings.
-/
import Derived.Test.YtjpkedhcbnklmaaNtg
namespace Go.Pf
open Go Go.Pu
set_option linter.unusedVariables false
theorem cut17_tot {n:SNet} (h:NOk n) {labels:List Int} (hlab:(labels.length:Int)=nodesOf n) {v ht:Int} (v0:0<=v) (v1:v<nodesOf n):Tot (spec_l17Cut (n,(labels,(v,ht)))) (fun r=>r.1.length<=1000):=by
  unfold spec_l17Cut
  dsimp only
  have hc:=caps_bd h.caps
  refine Tot.bind (cone_tot h.nb) fun cone hcone=> ?_
  refine Tot.bindEq (nodeCount_nok h) ?_
  refine Tot.make (by omega) (by omega) (by omega) ?_
  refine Tot.lp (fun s=>(0<=s.1/\s.1<=(cone.length:Int))/\(s.2.length:Int)=nodesOf n) (fun s=>((cone.length:Int) - s.1).toNat) ⟨⟨by simp only;omega,by simp only;omega⟩,by simp only [List.length_replicate];omega⟩ (fun s hs=> ?_)
  obtain ⟨i,up⟩:=s
  obtain ⟨⟨i0,i1⟩,hup⟩:=hs
  simp only at i0 i1 hup
  have hcl:=hcone.1
  dsimp only
  refine Tot.dite (fun h1=> ?_) (fun h1=> ?_)
  · rw [wrap_ok (z:=i+1) (by omega)]
    refine Tot.gin i0 h1 (Tot.get i0 h1 fun x hx hxm=> ?_)
    have hxr:=hcone.2 x hxm
    refine Tot.gin i0 h1 (Tot.get i0 h1 fun x2 _ _=> ?_)
    refine Tot.dite (fun _=> ?_) (fun _=> ?_)
    · refine Tot.gin (by omega) (by omega) (Tot.get (by omega) (by omega) fun _ _ _=> ?_)
      exact Tot.next ⟨⟨⟨by simp only;omega,by simp only;omega⟩,by simp only [gset_len];exact hup⟩,by simp only;omega⟩
    · refine Tot.gin i0 h1 (Tot.get i0 h1 fun x3 hx3 _=> ?_)
      have e:x3=x:=by rw [hx,hx3]
      subst e
      refine Tot.get (by omega) (by omega) fun _ _ _=> ?_
      refine Tot.gin (by omega) (by omega) (Tot.get (by omega) (by omega) fun _ _ _=> ?_)
      exact Tot.next ⟨⟨⟨by simp only;omega,by simp only;omega⟩,by simp only [gset_len];exact hup⟩,by simp only;omega⟩
  refine Tot.exit ?_
  clear h1 i0 i1
  refine Tot.bindEq (nodeCount_nok h) ?_
  refine Tot.make (by omega) (by omega) (by omega) ?_
  refine Tot.bindEq (nodeCount_nok h) ?_
  refine Tot.make (by omega) (by omega) (by omega) ?_
  refine Tot.lp (fun i=>0<=i/\i<=firstOf n) (fun i=>(firstOf n - i).toNat) ⟨by omega,by omega⟩ (fun j hj=> ?_)
  obtain ⟨j0,j1⟩:=hj
  refine Tot.bindEq (first_nok h) ?_
  refine Tot.dite (fun h1=> ?_) (fun h1=> ?_)
  · refine Tot.gin j0 (by omega) (Tot.get j0 (by omega) fun _ _ _=> ?_)
    refine Tot.ite (fun _=>Tot.exit (Tot.ret (by simp))) (fun _=> ?_)
    rw [wrap_ok (z:=j+1) (by omega)]
    exact Tot.next ⟨⟨by omega,by omega⟩,by omega⟩
  refine Tot.exit ?_
  clear h1 j0 j1
  refine Tot.lp (fun s=>(0<=s.1/\s.1<=5)/\(s.2.1.length:Int)=nodesOf n/\AbOk n s.2.2) (fun s=>(5 - s.1).toNat) ⟨⟨by simp only;omega,by simp only;omega⟩,by simp only [List.length_replicate];omega,by simp only [List.length_replicate];omega,fun y hy=>by rw [List.eq_of_mem_replicate hy];omega⟩ (fun s hs=> ?_)
  obtain ⟨fl,us,ab⟩:=s
  obtain ⟨⟨f0,f1⟩,hus,hab⟩:=hs
  simp only at f0 f1 hus hab
  dsimp only
  refine Tot.dite (fun h1=> ?_) (fun h1=>Tot.exit (Tot.ret (by simp)))
  refine Tot.bind (search_tot h hup hus hab) fun r hr=> ?_
  obtain ⟨b,at0⟩:=r
  obtain ⟨q,hsi,hat⟩:=hr
  simp only at hsi hat
  obtain ⟨M,hM⟩:∃M:Nat,2*nodesOf n=(M:Int):=⟨(2*nodesOf n).toNat,by omega⟩
  have hM2:(2*nodesOf n).toNat=M:=by omega
  rw [hM2] at hsi
  have hbl:=hsi.len
  dsimp only
  refine Tot.dite (fun h2=> ?_) (fun h2=> ?_)
  · refine Tot.lp (fun s=>(0<=s.1/\s.1<=nodesOf n)/\(s.2.length:Int)<=s.1) (fun s=>(nodesOf n - s.1).toNat) ⟨⟨by simp only;omega,by simp only;omega⟩,by simp⟩ (fun s hs=> ?_)
    obtain ⟨k,out⟩:=s
    obtain ⟨⟨k0,k1⟩,ho⟩:=hs
    simp only at k0 k1 ho
    refine Tot.bindEq (nodeCount_nok h) ?_
    dsimp only
    refine Tot.dite (fun h3=> ?_) (fun h3=> ?_)
    · rw [wrap_ok (z:=2*k) (by omega),wrap_ok (z:=k+1) (by omega),wrap_ok (z:=2*k+1) (by omega)]
      refine Tot.gin (by omega) (by omega) (Tot.get (by omega) (by omega) fun _ _ _=> ?_)
      refine Tot.dite (fun _=> ?_) (fun _=> ?_)
      · refine Tot.gin (by omega) (by omega) (Tot.get (by omega) (by omega) fun _ _ _=> ?_)
        refine Tot.dite (fun _=> ?_) (fun _=> ?_)
        · refine Tot.app (by simp only [List.length_singleton];omega) (by omega) ?_
          exact Tot.next ⟨⟨⟨by simp only;omega,by simp only;omega⟩,by simp only [List.length_append,List.length_singleton];omega⟩,by simp only;omega⟩
        · exact Tot.next ⟨⟨⟨by simp only;omega,by simp only;omega⟩,by simp only;omega⟩,by simp only;omega⟩
      · exact Tot.next ⟨⟨⟨by simp only;omega,by simp only;omega⟩,by simp only;omega⟩,by simp only;omega⟩
    · exact Tot.exit (Tot.exit (Tot.ret (by simp only;omega)))
  · refine Tot.lp (fun s=>(s.1= -1\/s.1∈q)/\(s.2.1.length:Int)=nodesOf n/\AbOk n s.2.2) (fun s=>if s.1<0 then 0 else q.idxOf s.1+1) ⟨hat,hus,hab⟩ (fun s hs=> ?_)
    obtain ⟨at1,us1,ab1⟩:=s
    obtain ⟨ha1,hus1,hab1⟩:=hs
    simp only at ha1 hus1 hab1
    dsimp only
    refine Tot.dite (fun h3=> ?_) (fun h3=> ?_)
    · have ham:at1∈q:=by
        rcases ha1 with e | e
        · omega
        · exact e
      have har:=(hsi.mem at1 ham).1
      have hback:=hsi.back ham
      refine Tot.gin h3 (by omega) (Tot.get h3 (by omega) fun fr hfr _=> ?_)
      rw [<-hfr] at hback
      have hfrr: -1<=fr/\fr<(M:Int):=by
        rcases hback with e | ⟨e,_⟩
        · omega
        · have:=(hsi.mem fr e).1;omega
      refine Tot.div2 h3 (by omega) ?_
      have hk:0<=at1/2/\at1/2<nodesOf n:=by omega
      refine Tot.join (A:=fun a:List Bool=>(a.length:Int)=nodesOf n) ?_ fun us2 hus2=> ?_
      · refine Tot.rem h3 (by omega) ?_
        refine Tot.dite (fun _=> ?_) (fun _=>Tot.next hus1)
        refine Tot.dite (fun _=> ?_) (fun _=>Tot.next hus1)
        refine Tot.gin hk.1 (by omega) (Tot.get hk.1 (by omega) fun _ _ _=> ?_)
        exact Tot.next (by rw [gset_len];exact hus1)
      refine Tot.join (A:=fun a:List Bool=>(a.length:Int)=nodesOf n) ?_ fun us3 hus3=> ?_
      · refine Tot.rem h3 (by omega) ?_
        refine Tot.dite (fun _=> ?_) (fun _=>Tot.next hus2)
        refine Tot.dite (fun _=> ?_) (fun _=>Tot.next hus2)
        refine Tot.gin hk.1 (by omega) (Tot.get hk.1 (by omega) fun _ _ _=> ?_)
        exact Tot.next (by rw [gset_len];exact hus2)
      have abset:∀{ab:List Int} {y:Int},AbOk n ab→-1<=y/\y<nodesOf n->AbOk n (gset ab (at1/2) y):=fun {ab y} hA hy=>⟨by rw [gset_len];exact hA.1,fun z hz=>by
        rcases gset_mem hz with hz | rfl
        · exact hA.2 z hz
        · exact hy⟩
      refine Tot.join (A:=fun a:List Int=>AbOk n a) ?_ fun ab2 hab2=> ?_
      · refine Tot.rem h3 (by omega) ?_
        refine Tot.dite (fun _=> ?_) (fun _=>Tot.next hab1)
        refine Tot.dite (fun _=> ?_) (fun _=>Tot.next hab1)
        refine Tot.gin hk.1 (by rw [hab1.1];omega) (Tot.get hk.1 (by rw [hab1.1];omega) fun _ _ _=> ?_)
        exact Tot.next (abset hab1 (by omega))
      have nxt:∀ab',AbOk n ab'→Tot (some (Sum.inl (fr,(us3,ab')):(Int×(List Bool×List Int))⊕((Int×(List Bool×List Int))⊕(List Int×Bool)))) (SumP (fun s' =>((s'.1= -1\/s'.1∈q)/\(s'.2.1.length:Int)=nodesOf n/\AbOk n s'.2.2)/\(if s'.1<0 then 0 else q.idxOf s'.1+1)<(if at1<0 then 0 else q.idxOf at1+1)) (SumP (fun s' =>((0<=s'.1/\s'.1<=5)/\(s'.2.1.length:Int)=nodesOf n/\AbOk n s'.2.2)/\(5 - s'.1).toNat<(5 - fl).toNat) (fun r=>r.1.length<=1000))):=fun ab' hA=>by
        refine Tot.next ⟨⟨?_,hus3,hA⟩,?_⟩
        · rcases hback with e | ⟨e,_⟩
          · exact .inl e
          · exact .inr e
        · simp only
          rw [if_neg (show ¬at1<0 by omega)]
          rcases hback with e | ⟨_,e⟩
          · rw [if_pos (by omega)];omega
          · split<;>omega
      refine Tot.rem h3 (by omega) ?_
      refine Tot.dite (fun _=> ?_) (fun _=>nxt ab2 hab2)
      refine Tot.dite (fun hf0=> ?_) (fun _=>nxt ab2 hab2)
      refine Tot.dite (fun _=> ?_) (fun _=>nxt ab2 hab2)
      refine Tot.div2 hf0 (by omega) ?_
      refine Tot.gin hk.1 (by rw [hab2.1];omega) (Tot.get hk.1 (by rw [hab2.1];omega) fun _ _ _=> ?_)
      exact nxt _ (abset hab2 (by omega))
    · refine Tot.exit ?_
      rw [wrap_ok (z:=fl+1) (by omega)]
      exact Tot.next ⟨⟨⟨by simp only;omega,by simp only;omega⟩,hus1,hab1⟩,by simp only;omega⟩
theorem labels_tot {n:SNet} (h:NOk n) (hk:spec_NetOk n=some true):Tot (spec_Labels n) (fun r=>(r.length:Int)=nodesOf n):=by
  unfold spec_Labels
  have hc:=caps_bd h.caps
  refine Tot.bindEq hk ?_
  dsimp only
  refine Tot.nite (fun e=>by cases e) (fun _=> ?_)
  refine Tot.bindEq (nodeCount_nok h) ?_
  refine Tot.make (by omega) (by omega) (by omega) ?_
  refine Tot.bindEq (first_nok h) ?_
  refine Tot.lp (fun s=>(firstOf n<=s.1/\s.1<=nodesOf n)/\(s.2.length:Int)=nodesOf n) (fun s=>(nodesOf n - s.1).toNat) ⟨⟨by simp only;omega,by simp only;omega⟩,by simp only [List.length_replicate];omega⟩ (fun s hs=> ?_)
  obtain ⟨k,lb⟩:=s
  obtain ⟨⟨k0,k1⟩,hl⟩:=hs
  simp only at k0 k1 hl
  refine Tot.bindEq (nodeCount_nok h) ?_
  dsimp only
  refine Tot.dite (fun h1=> ?_) (fun h1=>Tot.exit (Tot.ret hl))
  refine Tot.bindEq (first_nok h) ?_
  rw [wrap_ok (z:=k - firstOf n) (by omega),wrap_ok (z:=k+1) (by omega)]
  refine Tot.get (by omega) (by omega) fun a ha _=> ?_
  have hlit:=and_at h (show 0<=k - firstOf n by omega) (by omega)
  rw [<-ha] at hlit
  unfold Lit at hlit
  refine Tot.div2 (by omega) (by omega) ?_
  refine Tot.gin (by omega) (by omega) (Tot.get (by omega) (by omega) fun _ _ _=> ?_)
  refine Tot.div2 (by omega) (by omega) ?_
  refine Tot.gin (by omega) (by omega) (Tot.get (by omega) (by omega) fun _ _ _=> ?_)
  refine Tot.gin (by omega) (by omega) (Tot.get (by omega) (by omega) fun _ _ _=> ?_)
  have nxt:∀q:List Int,(q.length:Int)=nodesOf n->Tot (some (Sum.inl (k+1,q):(Int×List Int)⊕List Int)) (SumP (fun s' =>((firstOf n<=s'.1/\s'.1<=nodesOf n)/\(s'.2.length:Int)=nodesOf n)/\(nodesOf n - s'.1).toNat<(nodesOf n - k).toNat) (fun r=>(r.length:Int)=nodesOf n)):=fun q hq=>
    Tot.next ⟨⟨⟨by simp only;omega,by simp only;omega⟩,hq⟩,by simp only;omega⟩
  refine Tot.dite (fun _=> ?_) (fun _=>nxt _ (by rw [gset_len];exact hl))
  refine Tot.bind (cut17_tot h (by rw [gset_len];exact hl) (by omega) (by omega)) fun r _=> ?_
  refine Tot.ite (fun _=> ?_) (fun _=>nxt _ (by rw [gset_len];exact hl))
  refine Tot.gin (by omega) (by rw [gset_len];omega) (Tot.get (by omega) (by rw [gset_len];omega) fun _ _ _=> ?_)
  exact nxt _ (by rw [gset_len,gset_len];exact hl)
theorem depthMap_tot {n:SNet} (hb:NB n):Tot (spec_DepthMapping n) (fun r=>r.length<=1000/\∀c∈r,c.length<=1000):=by
  unfold spec_DepthMapping
  obtain ⟨ok,hk,hok⟩:=netOk_tot hb
  refine Tot.bindEq hk ?_
  dsimp only
  refine Tot.nite (fun _=>Tot.ret ⟨by simp,fun c hc=>(by cases hc)⟩) (fun ho=> ?_)
  subst ho
  have h:=hok rfl
  have hc:=caps_bd h.caps
  refine Tot.bind (labels_tot h hk) fun lb hlb=> ?_
  refine Tot.bindEq (first_nok h) ?_
  refine Tot.lp (fun s=>(firstOf n<=s.1/\s.1<=nodesOf n)/\(s.2.length:Int)<=s.1/\∀c∈s.2,c.length<=1000) (fun s=>(nodesOf n - s.1).toNat) ⟨⟨by simp only;omega,by simp only;omega⟩,by simp only [List.length_nil];omega,fun c hc=>(by cases hc)⟩ (fun s hs=> ?_)
  obtain ⟨k,cs⟩:=s
  obtain ⟨⟨k0,k1⟩,hl,hcs⟩:=hs
  simp only at k0 k1 hl hcs
  refine Tot.bindEq (nodeCount_nok h) ?_
  dsimp only
  refine Tot.dite (fun h1=> ?_) (fun h1=>Tot.exit (Tot.ret ⟨by omega,hcs⟩))
  refine Tot.gin (by omega) (by omega) (Tot.get (by omega) (by omega) fun _ _ _=> ?_)
  refine Tot.bind (cut17_tot h hlb (by omega) h1) fun r hr=> ?_
  refine Tot.app (by simp only [List.length_singleton];omega) (by omega) ?_
  rw [wrap_ok (z:=k+1) (by omega)]
  refine Tot.next ⟨⟨⟨by simp only;omega,by simp only;omega⟩,by simp only [List.length_append,List.length_singleton];omega,fun c hc2=> ?_⟩,by simp only;omega⟩
  rcases List.mem_append.1 hc2 with hc2 | hc2
  · exact hcs c hc2
  · rw [List.mem_singleton.1 hc2];exact hr
end Go.Pf
