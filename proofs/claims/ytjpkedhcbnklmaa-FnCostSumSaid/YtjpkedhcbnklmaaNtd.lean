/-
  Own work. Draws, plainly: cones, sweeping, hashing, drawn nets.
-/
import Derived.Test.YtjpkedhcbnklmaaNtc
namespace Go.Pf
open Go Go.Pu
set_option linter.unusedVariables false
def Low (m:Int) (xs:List Bool):Prop:=∀k:Nat,m<(k:Int)->xs.getD k false=false
theorem low_set {m:Int} {xs:List Bool} {i:Int} (h:Low m xs) (h0:0<=i) (hi:i<=m) (b:Bool):Low m (gset xs i b):=fun k hk=>by
  unfold gset
  rw [List.getD,List.getElem?_set_ne (by omega)]
  exact h k hk
theorem and_at {n:SNet} (h:NOk n) {i:Int} (h0:0<=i) (h1:i<(n.2.2.1.length:Int)):Lit (n.2.2.1.getD i.toNat (0,0)).1 (firstOf n+i)/\Lit (n.2.2.1.getD i.toNat (0,0)).2 (firstOf n+i):=by
  have:=h.ands i.toNat (by omega)
  have e:(i.toNat:Int)=i:=by omega
  rw [e] at this
  exact this
theorem mark_tot {n:SNet} (h:NOk n) {marks:List Bool} (hm:(marks.length:Int)=nodesOf n) {m:Int} (hl:Low m marks):Tot (spec_l08Mark (n,marks)) (fun r=>(r.length:Int)=nodesOf n/\Low m r):=by
  unfold spec_l08Mark
  dsimp only
  have hc:=caps_bd h.caps
  have han:=h.an
  refine Tot.app (by simp only [List.length_nil];omega) (by omega) ?_
  rw [List.nil_append,wrap_ok (by omega)]
  refine Tot.lp (fun s=>(-1<=s.1/\s.1<(n.2.2.1.length:Int))/\(s.2.length:Int)=nodesOf n/\Low m s.2) (fun s=>(s.1+1).toNat) ⟨⟨by simp only;omega,by simp only;omega⟩,hm,hl⟩ (fun s hs=> ?_)
  obtain ⟨i,r⟩:=s
  obtain ⟨⟨i0,i1⟩,hr,hlr⟩:=hs
  simp only at i0 i1 hr hlr
  dsimp only
  refine Tot.dite (fun h1=> ?_) (fun h1=> ?_)
  · refine Tot.bindEq (first_nok h) ?_
    rw [wrap_ok (z:=firstOf n+i) (by omega),wrap_ok (z:=i - 1) (by omega)]
    refine Tot.gin (by omega) (by omega) (Tot.get (by omega) (by omega) fun b hb _=> ?_)
    refine Tot.ite (fun hbt=> ?_) (fun _=> ?_)
    · have hle:firstOf n+i<=m:=by
        by_cases c:m<firstOf n+i
        · have:=hlr (firstOf n+i).toNat (by omega)
          rw [hb,this] at hbt;cases hbt
        · omega
      refine Tot.get h1 i1 fun a ha _=> ?_
      have haa:=and_at h h1 i1
      rw [<-ha] at haa
      unfold Lit at haa
      refine Tot.div2 (by omega) (by omega) ?_
      refine Tot.gin (by omega) (by omega) (Tot.get (by omega) (by omega) fun _ _ _=> ?_)
      refine Tot.get h1 i1 fun a2 ha2 _=> ?_
      have e:a2=a:=by rw [ha,ha2]
      subst e
      refine Tot.div2 (by omega) (by omega) ?_
      refine Tot.gin (by omega) (by rw [gset_len];omega) (Tot.get (by omega) (by rw [gset_len];omega) fun _ _ _=> ?_)
      refine Tot.next ⟨⟨⟨by simp only;omega,by simp only;omega⟩,by simp only [gset_len];exact hr,low_set (low_set hlr (by omega) (by omega) _) (by omega) (by omega) _⟩,by simp only;omega⟩
    · exact Tot.next ⟨⟨⟨by simp only;omega,by simp only;omega⟩,hr,hlr⟩,by simp only;omega⟩
  exact Tot.exit (Tot.ret ⟨hr,hlr⟩)
theorem reached_tot {n:SNet} (h:NOk n):Tot (spec_Reached n) (fun r=>r=[]\/(r.length:Int)=nodesOf n):=by
  unfold spec_Reached
  have hc:=caps_bd h.caps
  refine Tot.bind (netOk_tot h.nb) fun ok hok=> ?_
  dsimp only
  refine Tot.nite (fun _=>Tot.ret (.inl rfl)) (fun _=> ?_)
  refine Tot.bindEq (nodeCount_nok h) ?_
  refine Tot.make (by omega) (by omega) (by omega) ?_
  refine Tot.bindEq (roots_ok h.nb) ?_
  have hrl:(rootsOf n).length<=1001000:=roots_len h.nb _
  refine Tot.lp (fun s=>(0<=s.1/\s.1<=((rootsOf n).length:Int))/\(s.2.length:Int)=nodesOf n) (fun s=>(((rootsOf n).length:Int) - s.1).toNat) ⟨⟨by simp only;omega,by simp only;omega⟩,by simp only [List.length_replicate];omega⟩ (fun s hs=> ?_)
  obtain ⟨i,r⟩:=s
  obtain ⟨⟨i0,i1⟩,hr⟩:=hs
  simp only at i0 i1 hr
  dsimp only
  refine Tot.dite (fun h1=> ?_) (fun h1=> ?_)
  · refine Tot.gin i0 h1 (Tot.get i0 h1 fun x _ hx=> ?_)
    have hlx:Lit x (nodesOf n):=by
      rcases roots_mem.1 hx with q | ⟨s,hs,q⟩
      · exact h.outs x q
      · exact (h.ins s hs).2 x q
    unfold Lit at hlx
    refine Tot.div2 (by omega) (by omega) ?_
    refine Tot.gin (by omega) (by omega) (Tot.get (by omega) (by omega) fun _ _ _=> ?_)
    rw [wrap_ok (z:=i+1) (by omega)]
    exact Tot.next ⟨⟨⟨by simp only;omega,by simp only;omega⟩,by simp only [gset_len];exact hr⟩,by simp only;omega⟩
  refine Tot.exit ?_
  refine Tot.bind (mark_tot h hr (m:=1000000) (fun k hk=> ?_)) fun r hr=>Tot.ret (.inr hr.1)
  rw [List.getD,List.getElem?_eq_none (by omega)];rfl
theorem reached_nok {n:SNet} (h:NOk n) (hk:spec_NetOk n=some true):Tot (spec_Reached n) (fun r=>(r.length:Int)=nodesOf n):=by
  obtain ⟨o,h1,h2⟩:=reached_tot h
  refine ⟨o,h1,?_⟩
  rcases h2 with h2 | h2
  · exfalso
    subst h2
    unfold spec_Reached at h1
    rw [hk] at h1
    simp only [Option.bind_some,Bool.not_true,cond_false] at h1
    rw [nodeCount_nok h] at h1
    have hc:=caps_bd h.caps
    have hrl:(rootsOf n).length<=1001000:=roots_len h.nb _
    have key:Tot (spec_Reached n) (fun r=>(r.length:Int)=nodesOf n):=by
      unfold spec_Reached
      refine Tot.bindEq hk ?_
      dsimp only
      refine Tot.nite (fun e=>by cases e) (fun _=> ?_)
      refine Tot.bindEq (nodeCount_nok h) ?_
      refine Tot.make (by omega) (by omega) (by omega) ?_
      refine Tot.bindEq (roots_ok h.nb) ?_
      refine Tot.lp (fun s=>(0<=s.1/\s.1<=((rootsOf n).length:Int))/\(s.2.length:Int)=nodesOf n) (fun s=>(((rootsOf n).length:Int) - s.1).toNat) ⟨⟨by simp only;omega,by simp only;omega⟩,by simp only [List.length_replicate];omega⟩ (fun s hs=> ?_)
      obtain ⟨i,r⟩:=s
      obtain ⟨⟨i0,i1⟩,hr⟩:=hs
      simp only at i0 i1 hr
      dsimp only
      refine Tot.dite (fun h1=> ?_) (fun h1=> ?_)
      · refine Tot.gin i0 h1 (Tot.get i0 h1 fun x _ hx=> ?_)
        have hlx:Lit x (nodesOf n):=by
          rcases roots_mem.1 hx with q | ⟨s,hs,q⟩
          · exact h.outs x q
          · exact (h.ins s hs).2 x q
        unfold Lit at hlx
        refine Tot.div2 (by omega) (by omega) ?_
        refine Tot.gin (by omega) (by omega) (Tot.get (by omega) (by omega) fun _ _ _=> ?_)
        rw [wrap_ok (z:=i+1) (by omega)]
        exact Tot.next ⟨⟨⟨by simp only;omega,by simp only;omega⟩,by simp only [gset_len];exact hr⟩,by simp only;omega⟩
      refine Tot.exit ?_
      refine Tot.bind (mark_tot h hr (m:=1000000) (fun k hk=> ?_)) fun r hr=>Tot.ret hr.1
      rw [List.getD,List.getElem?_eq_none (by omega)];rfl
    obtain ⟨o,k1,k2⟩:=key
    unfold spec_Reached at k1
    rw [hk] at k1
    simp only [Option.bind_some,Bool.not_true,cond_false] at k1
    rw [nodeCount_nok h] at k1
    rw [h1] at k1
    cases k1
    simp only [List.length_nil] at k2
    omega
  · exact h2
theorem cone_tot {n:SNet} (h:NB n) {v:Int}:Tot (spec_Cone (n,v)) (fun r=>r.length<=1000/\∀x∈r,0<=x/\x<=v/\NOk n/\v<nodesOf n):=by
  unfold spec_Cone
  dsimp only
  refine Tot.bind (netOk_tot h) fun ok hok=> ?_
  refine Tot.nite (fun _=>Tot.ret ⟨by simp,fun x hx=>(by cases hx)⟩) (fun ho=> ?_)
  have hn:=hok ho
  have hc:=caps_bd hn.caps
  refine Tot.dite (fun _=>Tot.ret ⟨by simp,fun x hx=>(by cases hx)⟩) (fun v0=> ?_)
  refine Tot.bindEq (nodeCount_nok hn) ?_
  refine Tot.dite (fun _=>Tot.ret ⟨by simp,fun x hx=>(by cases hx)⟩) (fun v1=> ?_)
  refine Tot.bindEq (nodeCount_nok hn) ?_
  refine Tot.make (by omega) (by omega) (by omega) ?_
  refine Tot.gin (by omega) (by rw [List.length_replicate];omega) (Tot.get (by omega) (by rw [List.length_replicate];omega) fun _ _ _=> ?_)
  refine Tot.bind (mark_tot hn (m:=v) (by rw [gset_len,List.length_replicate];omega) (low_set (fun k hk=> ?_) (by omega) (Int.le_refl _) _)) fun r hr=> ?_
  · rw [List.getD]
    by_cases q:k<(nodesOf n).toNat
    · rw [List.getElem?_replicate,if_pos q];rfl
    · rw [List.getElem?_eq_none (by rw [List.length_replicate];omega)];rfl
  obtain ⟨hr1,hr2⟩:=hr
  refine Tot.lp (fun s=>(0<=s.1/\s.1<=(r.length:Int))/\(s.2.length:Int)<=s.1/\∀x∈s.2,0<=x/\x<=v) (fun s=>((r.length:Int) - s.1).toNat) ⟨⟨by simp only;omega,by simp only;omega⟩,by simp,fun x hx=>by simp at hx⟩ (fun s hs=> ?_)
  obtain ⟨i,q⟩:=s
  obtain ⟨⟨i0,i1⟩,hq,hx⟩:=hs
  simp only at i0 i1 hq hx
  dsimp only
  refine Tot.dite (fun h1=> ?_) (fun h1=> ?_)
  · refine Tot.gin i0 h1 (Tot.get i0 h1 fun b hb _=> ?_)
    rw [wrap_ok (z:=i+1) (by omega)]
    refine Tot.ite (fun hbt=> ?_) (fun _=> ?_)
    · refine Tot.app (by simp only [List.length_singleton];omega) (by omega) ?_
      refine Tot.next ⟨⟨⟨by simp only;omega,by simp only;omega⟩,by simp only [List.length_append,List.length_singleton];omega,fun x hx2=> ?_⟩,by simp only;omega⟩
      rcases List.mem_append.1 hx2 with hx2 | hx2
      · exact hx x hx2
      · rw [List.mem_singleton.1 hx2]
        refine ⟨i0,?_⟩
        by_cases c:v<i
        · have:=hr2 i.toNat (by omega)
          rw [hb,this] at hbt;cases hbt
        · omega
    · exact Tot.next ⟨⟨⟨by simp only;omega,by simp only;omega⟩,by simp only;omega,hx⟩,by simp only;omega⟩
  exact Tot.exit (Tot.ret ⟨by omega,fun x hx2=>⟨(hx x hx2).1,(hx x hx2).2,hn,by omega⟩⟩)
theorem nb_empty:NB (0,([],([],[]))):=⟨by simp,fun s hs=>(by cases hs),by simp,fun s hs=>(by cases hs),by simp,fun s hs=>(by cases hs)⟩
theorem lit_map {x m:Int} {L:Nat} (h:Lit x m) (hL:(L:Int)=m) (hm:m<=1000):0<=x/\x/2<(L:Int)/\x<=9223372036854775807:=by
  unfold Lit at h;omega
theorem sweep_tot {n:SNet} (h:NB n):Tot (spec_Sweep n) NB:=by
  unfold spec_Sweep
  obtain ⟨ok,hk,hok⟩:=netOk_tot h
  refine Tot.bindEq hk ?_
  dsimp only
  refine Tot.nite (fun _=>Tot.ret nb_empty) (fun ho=> ?_)
  subst ho
  have hn:=hok rfl
  have hc:=caps_bd hn.caps
  have hsq:=hn.sq
  have han:=hn.an
  refine Tot.bind (reached_nok hn hk) fun keep hkeep=> ?_
  refine Tot.bind (empty_tot hn) fun r hr=> ?_
  obtain ⟨⟨ri,rs,ra,ro⟩,to⟩:=r
  obtain ⟨q1,q2,q3,q4,q5,q6⟩:=hr
  simp only at q1 q2 q3 q4 q5 q6
  subst q1 q4 q5
  refine Tot.bindEq (first_nok hn) ?_
  refine Tot.lp (fun s=>(0<=s.1/\s.1<=(n.2.2.1.length:Int))/\(s.2.1.length:Int)=firstOf n+s.1/\(s.2.2.2.length:Int)<=s.1/\(∀a∈s.2.2.2,I64 a.1/\I64 a.2)/\(0<=s.2.2.1/\s.2.2.1<=firstOf n+s.1)) (fun s=>((n.2.2.1.length:Int) - s.1).toNat) ⟨⟨by simp only;omega,by simp only;omega⟩,by simp only;omega,by simp,fun a ha=>by simp at ha,by simp only;omega,by simp only;omega⟩ (fun s hs=> ?_)
  obtain ⟨i,to,nx,as⟩:=s
  obtain ⟨⟨i0,i1⟩,hto,has,haa,nx0,nx1⟩:=hs
  simp only at i0 i1 hto has haa nx0 nx1
  dsimp only
  refine Tot.dite (fun h1=> ?_) (fun h1=> ?_)
  · refine Tot.bindEq (first_nok hn) ?_
    rw [wrap_ok (z:=firstOf n+i) (by omega),wrap_ok (z:=i+1) (by omega)]
    refine Tot.gin (by omega) (by omega) (Tot.get (by omega) (by omega) fun b _ _=> ?_)
    refine Tot.nite (fun _=> ?_) (fun _=> ?_)
    · refine Tot.app (by simp only [List.length_singleton];omega) (by omega) ?_
      exact Tot.next ⟨⟨⟨by simp only;omega,by simp only;omega⟩,by simp only [List.length_append,List.length_singleton];omega,by simp only;omega,haa,by simp only;omega,by simp only;omega⟩,by simp only;omega⟩
    · refine Tot.get i0 h1 fun a ha _=> ?_
      refine Tot.get i0 h1 fun a2 ha2 _=> ?_
      have e:a2=a:=by rw [ha,ha2]
      subst e
      have hl:=and_at hn i0 h1
      rw [<-ha] at hl
      refine Tot.bind (map10_tot (by simp) (fun x hx=> ?_)) fun v hv=> ?_
      · simp only [List.mem_cons,List.not_mem_nil,or_false] at hx
        rcases hx with rfl | rfl
        · exact lit_map hl.1 hto (by omega)
        · exact lit_map hl.2 hto (by omega)
      obtain ⟨hv1,hv2⟩:=hv
      simp only [List.length_cons,List.length_nil] at hv1
      refine Tot.gin (by omega) (by omega) (Tot.get (by omega) (by omega) fun x _ hx=> ?_)
      refine Tot.gin (by omega) (by omega) (Tot.get (by omega) (by omega) fun y _ hy=> ?_)
      refine Tot.app (by simp only [List.length_singleton];omega) (by omega) ?_
      refine Tot.app (by simp only [List.length_singleton];omega) (by omega) ?_
      rw [wrap_ok (z:=nx+1) (by omega)]
      refine Tot.next ⟨⟨⟨by simp only;omega,by simp only;omega⟩,by simp only [List.length_append,List.length_singleton];omega,by simp only [List.length_append,List.length_singleton];omega,fun a ha2=> ?_,by simp only;omega,by simp only;omega⟩,by simp only;omega⟩
      rcases List.mem_append.1 ha2 with ha2 | ha2
      · exact haa a ha2
      · rw [List.mem_singleton.1 ha2];exact ⟨hv2 x hx,hv2 y hy⟩
  refine Tot.exit ?_
  have hto2:(to.length:Int)=nodesOf n:=by omega
  refine Tot.lp (fun s=>(0<=s.1/\s.1<=(n.2.1.length:Int))/\s.2.length=n.2.1.length/\∀q∈s.2,q.2.2.length<=4/\∀x∈q.2.2,I64 x) (fun s=>((n.2.1.length:Int) - s.1).toNat) ⟨⟨by simp only;omega,by simp only;omega⟩,q2,q3⟩ (fun s hs=> ?_)
  obtain ⟨k,sq⟩:=s
  obtain ⟨⟨k0,k1⟩,hl2,hq⟩:=hs
  simp only at k0 k1 hl2 hq
  dsimp only
  refine Tot.dite (fun h2=> ?_) (fun h2=> ?_)
  · refine Tot.get k0 (by omega) fun y _ hm=> ?_
    refine Tot.bind (map10_tot (by have:=(hn.ins y hm).1;omega) (fun x hx=>lit_map ((hn.ins y hm).2 x hx) hto2 (by omega))) fun v hv=> ?_
    refine Tot.gin k0 h2 (Tot.get k0 h2 fun y2 _ _=> ?_)
    rw [wrap_ok (z:=k+1) (by omega)]
    refine Tot.next ⟨⟨⟨by simp only;omega,by simp only;omega⟩,by simp only [gset_len];exact hl2,fun q hq2=> ?_⟩,by simp only;omega⟩
    rcases gset_mem hq2 with hq2 | rfl
    · exact hq q hq2
    · exact ⟨by simp only;rw [hv.1];exact (hn.ins y hm).1,hv.2⟩
  refine Tot.exit ?_
  refine Tot.bind (map10_tot (by have:=hn.ot;omega) (fun x hx=>lit_map (hn.outs x hx) hto2 (by omega))) fun v hv=> ?_
  exact Tot.ret ⟨by simp only;omega,fun s hs=>⟨by have:=(hq s hs).1;omega,(hq s hs).2⟩,by simp only;omega,haa,by simp only;rw [hv.1];have:=hn.ot;omega,hv.2⟩
theorem finish_tot {o n:SNet} (ho:NB o) (hn:NOk n) (hsq:o.2.1.length=n.2.1.length) {to:List Int} (hto:(to.length:Int)=nodesOf n):Tot (spec_l10Finish (o,(n,to))) (fun r=>NB r.1):=by
  unfold spec_l10Finish
  dsimp only
  have hc:=caps_bd hn.caps
  have hs12:=hn.sq
  refine Tot.lp (fun s=>(0<=s.1/\s.1<=(n.2.1.length:Int))/\s.2.length=n.2.1.length/\∀q∈s.2,q.2.2.length<=1000/\∀x∈q.2.2,I64 x) (fun s=>((n.2.1.length:Int) - s.1).toNat) ⟨⟨by simp only;omega,by simp only;omega⟩,hsq,ho.ins⟩ (fun s hs=> ?_)
  obtain ⟨k,sq⟩:=s
  obtain ⟨⟨k0,k1⟩,hl2,hq⟩:=hs
  simp only at k0 k1 hl2 hq
  dsimp only
  refine Tot.dite (fun h2=> ?_) (fun h2=> ?_)
  · refine Tot.get k0 (by omega) fun y _ hm=> ?_
    refine Tot.bind (map10_tot (by have:=(hn.ins y hm).1;omega) (fun x hx=>lit_map ((hn.ins y hm).2 x hx) hto (by omega))) fun v hv=> ?_
    refine Tot.gin k0 h2 (Tot.get k0 h2 fun y2 _ _=> ?_)
    rw [wrap_ok (z:=k+1) (by omega)]
    refine Tot.next ⟨⟨⟨by simp only;omega,by simp only;omega⟩,by simp only [gset_len];exact hl2,fun q hq2=> ?_⟩,by simp only;omega⟩
    rcases gset_mem hq2 with hq2 | rfl
    · exact hq q hq2
    · exact ⟨by simp only;rw [hv.1];have:=(hn.ins y hm).1;omega,hv.2⟩
  refine Tot.exit ?_
  refine Tot.bind (map10_tot (by have:=hn.ot;omega) (fun x hx=>lit_map (hn.outs x hx) hto (by omega))) fun v hv=> ?_
  refine Tot.bind (sweep_tot (n:=(o.1,(sq,(o.2.2.1,v)))) ⟨by simp only;omega,hq,ho.an,ho.ands,by simp only;rw [hv.1];have:=hn.ot;omega,hv.2⟩) fun r hr=> ?_
  exact Tot.ret hr
theorem hash_tot {n:SNet} (h:NB n):Tot (spec_Hash n) NB:=by
  unfold spec_Hash
  refine Tot.bind (netOk_tot h) fun ok hok=> ?_
  dsimp only
  refine Tot.nite (fun _=>Tot.ret nb_empty) (fun ho=> ?_)
  have hn:=hok ho
  have hc:=caps_bd hn.caps
  have hsq:=hn.sq
  have han:=hn.an
  refine Tot.bind (empty_tot hn) fun r hr=> ?_
  obtain ⟨⟨ri,rs,ra,ro⟩,to⟩:=r
  obtain ⟨q1,q2,q3,q4,q5,q6⟩:=hr
  simp only at q1 q2 q3 q4 q5 q6
  subst q1 q4 q5
  refine Tot.lp (fun s=>(0<=s.1/\s.1<=(n.2.2.1.length:Int))/\s.2.1.length=n.2.1.length/\NB (s.2.2.2.2.2,(s.2.1,(s.2.2.1,s.2.2.2.1)))/\(s.2.2.1.length:Int)<=s.1/\(s.2.2.2.2.1.length:Int)=firstOf n+s.1) (fun s=>((n.2.2.1.length:Int) - s.1).toNat)
    ⟨⟨by simp only;omega,by simp only;omega⟩,q2,⟨by simp only;omega,fun s hs=>⟨by have:=(q3 s hs).1;omega,(q3 s hs).2⟩,by simp,fun a ha=>(by cases ha),by simp,fun a ha=>(by cases ha)⟩,by simp,by simp only;omega⟩ (fun s hs=> ?_)
  obtain ⟨i,sq,as,os,to,inp⟩:=s
  obtain ⟨⟨i0,i1⟩,hl,hb,hal,htl⟩:=hs
  simp only at i0 i1 hl hb hal htl
  dsimp only
  refine Tot.dite (fun h1=> ?_) (fun h1=> ?_)
  · have hlit:=and_at hn i0 h1
    refine Tot.get i0 h1 fun a ha _=> ?_
    rw [<-ha] at hlit
    unfold Lit at hlit
    refine Tot.div2 (by omega) (by omega) ?_
    refine Tot.gin (by omega) (by omega) (Tot.get (by omega) (by omega) fun x _ _=> ?_)
    refine Tot.get i0 h1 fun a2 _ _=> ?_
    refine Tot.get i0 h1 fun a3 ha3 _=> ?_
    have e:a3=a:=by rw [ha,ha3]
    subst e
    refine Tot.div2 (by omega) (by omega) ?_
    refine Tot.gin (by omega) (by omega) (Tot.get (by omega) (by omega) fun y _ _=> ?_)
    refine Tot.get i0 h1 fun a4 _ _=> ?_
    refine Tot.bind (addAnd_tot hb (gxor_in _ _) (gxor_in _ _)) fun r hr=> ?_
    obtain ⟨⟨mi,ms,ma,mo⟩,z⟩:=r
    obtain ⟨r1,r2,r3,r4,r5,r6⟩:=hr
    simp only at r1 r2 r3 r4 r5 r6
    subst r1 r2 r3
    refine Tot.app (by simp only [List.length_singleton];omega) (by omega) ?_
    rw [wrap_ok (z:=i+1) (by omega)]
    refine Tot.next ⟨⟨⟨by simp only;omega,by simp only;omega⟩,hl,⟨hb.sq,hb.ins,by simp only;omega,r5,hb.ot,hb.outs⟩,by simp only;omega,by simp only [List.length_append,List.length_singleton];omega⟩,by simp only;omega⟩
  refine Tot.exit ?_
  refine Tot.bind (finish_tot hb hn hl (by omega)) fun r hr=>Tot.ret hr
end Go.Pf
