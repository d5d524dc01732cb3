/-
  Own work. Draws, plainly: drawn nets, cuts, their tables, LUT networks out of mapped nets.
-/
import Derived.Test.YtjpkedhcbnklmaaNtd
import Derived.Test.YtjpkedhcbnklmaaNtb
namespace Go.Pf
open Go Go.Pu
set_option linter.unusedVariables false
theorem sized_tot {b:List Int} {c:Cur} (hb:CdOk b) (hc:CurOk b c) {p q r:Int} (hp:p<=100) (hq:0<=q/\q<=100) (hr:0<=r/\r<=100):Tot (spec_l08Sized ((b,c),(p,(q,r)))) (fun o=>NB o.1/\CurOk b o.2):=by
  unfold spec_l08Sized
  dsimp only
  refine Tot.below hb hc fun x1 c1 k1 z1 y1=> ?_
  have hx1:0<=x1/\x1<=100:=by
    by_cases h:0<p
    · have:=y1 h;omega
    · have:=z1 (by omega);omega
  rw [wrap_ok (z:=1+x1) (by omega),wrap_ok (z:=q+1) (by omega),wrap_ok (z:=r+1) (by omega),wrap_ok (z:=1+(1+x1)) (by omega)]
  refine Tot.below hb k1 fun x2 c2 k2 _ y2=> ?_
  have hx2:=y2 (by omega)
  refine Tot.below hb k2 fun x3 c3 k3 _ y3=> ?_
  have hx3:=y3 (by omega)
  simp only
  rw [wrap_ok (z:=1+(1+x1)+x2) (by omega)]
  refine Tot.lp (fun s=>(0<=s.1/\s.1<=x3)/\CurOk b (s.2.1,s.2.2.1)/\(s.2.2.2.length:Int)<=s.1/\∀a∈s.2.2.2,I64 a.1/\I64 a.2) (fun s=>(x3 - s.1).toNat) ⟨⟨by simp only;omega,by simp only;omega⟩,k3,by simp,fun a ha=>by cases ha⟩ (fun s hs=> ?_)
  obtain ⟨i,u,v,as⟩:=s
  obtain ⟨⟨i0,i1⟩,hcu,hl,ha⟩:=hs
  simp only at i0 i1 hcu hl ha
  dsimp only
  refine Tot.dite (fun h1=> ?_) (fun h1=> ?_)
  · rw [wrap_ok (z:=1+(1+x1)+x2+i) (by omega),wrap_ok (z:=2*(1+(1+x1)+x2+i)) (by omega),wrap_ok (z:=i+1) (by omega)]
    refine Tot.below hb hcu fun x4 c4 k4 _ _=> ?_
    refine Tot.below hb k4 fun x5 c5 k5 _ y5=> ?_
    have hx5:=y5 (by omega)
    refine Tot.app (by simp only [List.length_singleton];omega) (by omega) ?_
    refine Tot.next ⟨⟨⟨by simp only;omega,by simp only;omega⟩,k5,by simp only [List.length_append,List.length_singleton];omega,fun a ham=> ?_⟩,by simp only;omega⟩
    rcases List.mem_append.1 ham with ham | ham
    · exact ha a ham
    · rw [List.mem_singleton.1 ham]
      exact ⟨wrap_in _,by unfold I64;simp only;omega⟩
  refine Tot.exit ?_
  rw [wrap_ok (z:=1+(1+x1)+x2+x3) (by omega),wrap_ok (z:=2*(1+(1+x1)+x2+x3)) (by omega)]
  refine Tot.lp (fun s=>(0<=s.1/\s.1<=x2)/\CurOk b (s.2.1,s.2.2.1)/\(s.2.2.2.length:Int)<=s.1/\∀a∈s.2.2.2,a.2.2.length<=4/\∀x∈a.2.2,I64 x) (fun s=>(x2 - s.1).toNat) ⟨⟨by simp only;omega,by simp only;omega⟩,hcu,by simp,fun a ha=>by cases ha⟩ (fun s hs=> ?_)
  obtain ⟨j,u2,v2,sq⟩:=s
  obtain ⟨⟨j0,j1⟩,hcu2,hl2,hs2⟩:=hs
  simp only at j0 j1 hcu2 hl2 hs2
  dsimp only
  refine Tot.dite (fun h2=> ?_) (fun h2=> ?_)
  · have bel:∀x,0<=x/\x<2*(1+(1+x1)+x2+x3)->I64 x:=fun x hx=>by unfold I64;omega
    refine Tot.join (A:=fun a=>CurOk b (a.1,a.2.1)/\(a.2.2.length:Int)<=j+1/\∀q∈a.2.2,q.2.2.length<=4/\∀x∈q.2.2,I64 x) ?_ fun a ha2=> ?_
    · refine Tot.once hb hcu2 fun f c6 k6=> ?_
      refine Tot.ite (fun _=> ?_) (fun _=> ?_)
      · refine Tot.below hb k6 fun x7 c7 k7 _ _=> ?_
        refine Tot.below hb k7 fun x8 c8 k8 _ y8=> ?_
        refine Tot.below hb k8 fun x9 c9 k9 _ y9=> ?_
        refine Tot.below hb k9 fun xa ca ka _ ya=> ?_
        refine Tot.below hb ka fun xb cb kb _ yb=> ?_
        refine Tot.app (by simp only [List.length_singleton];omega) (by omega) ?_
        refine Tot.next ⟨kb,by simp only [List.length_append,List.length_singleton];omega,fun q hq=> ?_⟩
        rcases List.mem_append.1 hq with hq | hq
        · exact hs2 q hq
        · rw [List.mem_singleton.1 hq]
          refine ⟨by simp,fun x hx=> ?_⟩
          simp only [List.mem_cons,List.not_mem_nil,or_false] at hx
          rcases hx with rfl | rfl | rfl | rfl
          · exact bel _ (y8 (by omega))
          · exact bel _ (y9 (by omega))
          · exact bel _ (ya (by omega))
          · exact bel _ (yb (by omega))
      · refine Tot.below hb k6 fun x7 c7 k7 _ _=> ?_
        refine Tot.below hb k7 fun x8 c8 k8 _ _=> ?_
        refine Tot.app (by simp only [List.length_singleton];omega) (by omega) ?_
        refine Tot.next ⟨k8,by simp only [List.length_append,List.length_singleton];omega,fun q hq=> ?_⟩
        rcases List.mem_append.1 hq with hq | hq
        · exact hs2 q hq
        · rw [List.mem_singleton.1 hq]
          refine ⟨by simp,fun x hx=> ?_⟩
          rw [List.mem_singleton.1 hx];exact wrap_in _
    · rw [wrap_ok (z:=j+1) (by omega)]
      exact Tot.next ⟨⟨⟨by simp only;omega,by simp only;omega⟩,ha2.1,ha2.2.1,ha2.2.2⟩,by simp only;omega⟩
  refine Tot.exit ?_
  refine Tot.below hb hcu2 fun x6 c6 k6 _ y6=> ?_
  have hx6:=y6 (by omega)
  refine Tot.lp (fun s=>(-1<=s.1/\s.1<=4)/\CurOk b (s.2.1,s.2.2.1)/\(s.2.2.2.length:Int)+s.1<=4/\∀x∈s.2.2.2,I64 x) (fun s=>(s.1+1).toNat) ⟨⟨by simp only;omega,by simp only;omega⟩,k6,by simp only [List.length_nil];omega,fun a ha=>by cases ha⟩ (fun s hs=> ?_)
  obtain ⟨k,u3,v3,os⟩:=s
  obtain ⟨⟨m0,m1⟩,hcu3,hl3,ho3⟩:=hs
  simp only at m0 m1 hcu3 hl3 ho3
  dsimp only
  refine Tot.dite (fun h3=> ?_) (fun h3=> ?_)
  · refine Tot.below hb hcu3 fun x7 c7 k7 _ _=> ?_
    refine Tot.app (by simp only [List.length_singleton];omega) (by omega) ?_
    rw [wrap_ok (z:=k - 1) (by omega)]
    refine Tot.next ⟨⟨⟨by simp only;omega,by simp only;omega⟩,k7,by simp only [List.length_append,List.length_singleton];omega,fun x hx=> ?_⟩,by simp only;omega⟩
    rcases List.mem_append.1 hx with hx | hx
    · exact ho3 x hx
    · rw [List.mem_singleton.1 hx];exact wrap_in _
  exact Tot.exit (Tot.ret ⟨⟨by simp only;omega,fun s hs=>⟨by have:=(hs2 s hs).1;omega,(hs2 s hs).2⟩,by simp only;omega,ha,by simp only;omega,ho3⟩,hcu3⟩)
theorem has13 (xs:List Int) (x:Int) (h:xs.length<=1000000):spec_l13Has (xs,x)=some (decide (x∈xs)):=has_spec xs x (by omega)
structure CutIn (n:SNet) (v:Int) (cut:List Int):Prop where
  ok:NOk n
  v0:0<=v
  v1:v<nodesOf n
  len:cut.length<=4
  mem:∀x∈cut,0<=x/\x<=v
theorem cutOk_tot {n:SNet} (h:NB n) {v:Int} {cut:List Int} (hl:cut.length<=1000000):Tot (spec_CutOk (n,(v,cut))) (fun r=>r=true->CutIn n v cut):=by
  unfold spec_CutOk
  dsimp only
  have fals:Tot (some false) (fun r=>r=true->CutIn n v cut):=Tot.ret (fun h=>by cases h)
  refine Tot.bind (netOk_tot h) fun ok hok=> ?_
  refine Tot.nite (fun _=>fals) (fun ho=> ?_)
  have hn:=hok ho
  have hc:=caps_bd hn.caps
  refine Tot.dite (fun _=>fals) (fun v0=> ?_)
  refine Tot.bindEq (nodeCount_nok hn) ?_
  refine Tot.dite (fun _=>fals) (fun v1=> ?_)
  refine Tot.dite (fun _=>fals) (fun h4=> ?_)
  refine Tot.bind (cone_tot h) fun cone hcone=> ?_
  refine Tot.lp (fun i=>(0<=i/\i<=(cut.length:Int))/\∀x∈cut.take i.toNat,0<=x/\x<=v) (fun i=>((cut.length:Int) - i).toNat) ⟨⟨by omega,by omega⟩,fun s hs=>by simp at hs⟩ (fun i hi=> ?_)
  obtain ⟨⟨i0,i1⟩,hi⟩:=hi
  refine Tot.dite (fun h1=> ?_) (fun h1=> ?_)
  · refine Tot.get i0 h1 fun x hx _=> ?_
    rw [has13 _ _ (by omega)]
    refine Tot.bindEq rfl ?_
    refine Tot.ndite (fun _=>Tot.exit fals) (fun hm=> ?_)
    have hxm:=hcone.2 x hm
    rw [wrap_ok (z:=i+1) (by omega)]
    have nxt:Tot (some (Sum.inl (i+1):Int⊕Bool)) (SumP (fun i' =>((0<=i'∧i'≤(cut.length:Int))/\∀x∈cut.take i'.toNat,0<=x/\x<=v)/\((cut.length:Int) - i').toNat<((cut.length:Int) - i).toNat) (fun r=>r=true->CutIn n v cut)):=
      Tot.next ⟨⟨⟨by omega,by omega⟩,take_all i0 h1 hi (by rw [<-hx];exact ⟨hxm.1,hxm.2.1⟩)⟩,by omega⟩
    refine Tot.dite (fun hi0=> ?_) (fun _=>nxt)
    refine Tot.get i0 h1 fun y _ _=> ?_
    rw [wrap_ok (z:=i - 1) (by omega)]
    refine Tot.get (by omega) (by omega) fun z _ _=> ?_
    exact Tot.dite (fun _=>Tot.exit fals) (fun _=>nxt)
  refine Tot.exit ?_
  have e1:i.toNat=cut.length:=by omega
  rw [e1,List.take_length] at hi
  refine Tot.bindEq (nodeCount_nok hn) ?_
  refine Tot.make (by omega) (by omega) (by omega) ?_
  refine Tot.gin (by omega) (by rw [List.length_replicate];omega) (Tot.get (by omega) (by rw [List.length_replicate];omega) fun _ _ _=> ?_)
  refine Tot.lp (fun s=>(0<=s.1/\s.1<=v)/\(s.2.length:Int)=nodesOf n) (fun s=>s.1.toNat) ⟨⟨by simp only;omega,by simp only;omega⟩,by simp only [gset_len,List.length_replicate];omega⟩ (fun s hs=> ?_)
  obtain ⟨k,op⟩:=s
  obtain ⟨⟨k0,k1⟩,hop⟩:=hs
  simp only at k0 k1 hop
  dsimp only
  refine Tot.dite (fun h2=> ?_) (fun h2=> ?_)
  · rw [wrap_ok (z:=k - 1) (by omega)]
    refine Tot.gin (by omega) (by omega) (Tot.get (by omega) (by omega) fun _ _ _=> ?_)
    have nxt:∀q:List Bool,(q.length:Int)=nodesOf n->Tot (some (Sum.inl (k - 1,q):(Int×List Bool)⊕Bool)) (SumP (fun s' =>((0<=s'.1/\s'.1<=v)/\(s'.2.length:Int)=nodesOf n)/\s'.1.toNat<k.toNat) (fun r=>r=true->CutIn n v cut)):=fun q hq=>
      Tot.next ⟨⟨⟨by simp only;omega,by simp only;omega⟩,hq⟩,by simp only;omega⟩
    refine Tot.nite (fun _=>nxt op hop) (fun _=> ?_)
    rw [has13 _ _ (by omega)]
    refine Tot.bindEq rfl ?_
    refine Tot.dite (fun _=>nxt op hop) (fun _=> ?_)
    refine Tot.bindEq (first_nok hn) ?_
    refine Tot.dite (fun _=>Tot.exit fals) (fun hkf=> ?_)
    refine Tot.bindEq (first_nok hn) ?_
    rw [wrap_ok (z:=k - firstOf n) (by omega)]
    refine Tot.get (by omega) (by omega) fun a ha _=> ?_
    have hl2:=and_at hn (show 0<=k - firstOf n by omega) (by omega)
    rw [<-ha] at hl2
    unfold Lit at hl2
    refine Tot.div2 (by omega) (by omega) ?_
    refine Tot.gin (by omega) (by omega) (Tot.get (by omega) (by omega) fun _ _ _=> ?_)
    refine Tot.div2 (by omega) (by omega) ?_
    refine Tot.gin (by omega) (by rw [gset_len];omega) (Tot.get (by omega) (by rw [gset_len];omega) fun _ _ _=> ?_)
    exact nxt _ (by rw [gset_len,gset_len];exact hop)
  exact Tot.exit (Tot.ret fun _=>⟨hn,by omega,by omega,by omega,hi⟩)
structure MapIn (n:SNet) (cuts:List (List Int)):Prop where
  ok:NOk n
  len:cuts.length=n.2.2.1.length
  cut:∀i,i<cuts.length->(cuts.getD i []).length<=4/\∀x∈cuts.getD i [],0<=x/\x<firstOf n+(i:Int)
theorem mapOk_tot {n:SNet} (h:NB n) {cuts:List (List Int)} (hl:∀c∈cuts,c.length<=1000):Tot (spec_MappingOk (n,cuts)) (fun r=>r=true->MapIn n cuts):=by
  unfold spec_MappingOk
  dsimp only
  have fals:Tot (some false) (fun r=>r=true->MapIn n cuts):=Tot.ret (fun h=>by cases h)
  refine Tot.bind (netOk_tot h) fun ok hok=> ?_
  refine Tot.nite (fun _=>fals) (fun ho=> ?_)
  have hn:=hok ho
  have hc:=caps_bd hn.caps
  have han:=hn.an
  refine Tot.dite (fun _=>fals) (fun hlen=> ?_)
  have hlen:cuts.length=n.2.2.1.length:=by omega
  refine Tot.lp (fun i=>(0<=i/\i<=(cuts.length:Int))/\∀k:Nat,(k:Int)<i->(cuts.getD k []).length<=4/\∀x∈cuts.getD k [],0<=x/\x<firstOf n+(k:Int)) (fun i=>((cuts.length:Int) - i).toNat) ⟨⟨by omega,by omega⟩,fun k hk=>by omega⟩ (fun i hi=> ?_)
  obtain ⟨⟨i0,i1⟩,hi⟩:=hi
  refine Tot.dite (fun h1=> ?_) (fun h1=> ?_)
  · refine Tot.get i0 h1 fun c hcd hm=> ?_
    have hcl:=hl c hm
    refine Tot.bindEq (first_nok hn) ?_
    rw [wrap_ok (z:=firstOf n+i) (by omega),wrap_ok (z:=i+1) (by omega)]
    refine Tot.bind (cutOk_tot h (by omega)) fun b hb=> ?_
    refine Tot.nite (fun _=>Tot.exit fals) (fun hbt=> ?_)
    have hcut:=hb hbt
    refine Tot.get i0 h1 fun c2 hc2 _=> ?_
    have e:c2=c:=by rw [hcd,hc2]
    subst e
    refine Tot.bindEq (first_nok hn) ?_
    rw [wrap_ok (z:=firstOf n+i) (by omega),has13 _ _ (by omega)]
    refine Tot.bindEq rfl ?_
    refine Tot.dite (fun _=>Tot.exit fals) (fun hnm=> ?_)
    refine Tot.next ⟨⟨⟨by omega,by omega⟩,fun k hk=> ?_⟩,by omega⟩
    by_cases q:(k:Int)<i
    · exact hi k q
    · have e3:i.toNat=k:=by omega
      rw [e3] at hcd
      rw [<-hcd]
      refine ⟨hcut.len,fun x hx=> ?_⟩
      have hx2:=hcut.mem x hx
      have hne:x≠firstOf n+i:=fun e=>by subst e;exact hnm hx
      omega
  exact Tot.exit (Tot.ret fun _=>⟨hn,hlen,fun k hk=>hi k (by omega)⟩)
theorem bit_tot {v:List Int} {x:Int} (h0:0<=x) (h1:x/2<(v.length:Int)) (h2:x<=9223372036854775807):Tot (spec_l09Bit (v,x)) (fun _=>True):=by
  unfold spec_l09Bit
  dsimp only
  refine Tot.div2 h0 h2 ?_
  refine Tot.get (by omega) h1 fun _ _ _=> ?_
  exact Tot.ret trivial
theorem shl_one {k:Int} (h:0<=k/\k<=4):∃m:Int,gshift true .i64 1 k=some m/\1<=m/\m<=16:=by
  have:k=0\/k=1\/k=2\/k=3\/k=4:=by omega
  rcases this with rfl | rfl | rfl | rfl | rfl
  · exact ⟨1,rfl,by omega,by omega⟩
  · exact ⟨2,rfl,by omega,by omega⟩
  · exact ⟨4,rfl,by omega,by omega⟩
  · exact ⟨8,rfl,by omega,by omega⟩
  · exact ⟨16,rfl,by omega,by omega⟩
theorem shift_tot {β:Type} {l:Bool} {a b:Int} {k:Int->Option β} {Q:β->Prop} (h:0<=b/\b<64) (hk:∀z,Tot (k z) Q):Tot ((gshift l .i64 a b).bind k) Q:=by
  unfold gshift
  rw [if_pos (show 0<=b/\b<((IntKind.i64).bits:Int) from h)]
  exact hk _
theorem cutTable_tot {n:SNet} (h:NB n) {v:Int} {cut:List Int} (hl:cut.length<=1000000):Tot (spec_CutTable (n,(v,cut))) (fun _=>True):=by
  unfold spec_CutTable
  dsimp only
  refine Tot.bind (cutOk_tot h hl) fun b hb=> ?_
  refine Tot.nite (fun _=>Tot.ret trivial) (fun hbt=> ?_)
  obtain ⟨hn,v0,v1,h4,hmem⟩:=hb hbt
  have hc:=caps_bd hn.caps
  obtain ⟨M,hM,hM0,hM1⟩:=shl_one (k:=(cut.length:Int)) (by omega)
  rw [hM]
  refine Tot.lp (fun s=>0<=s.1/\s.1<=M) (fun s=>(M - s.1).toNat) ⟨by simp only;omega,by simp only;omega⟩ (fun s hs=> ?_)
  obtain ⟨i,acc⟩:=s
  obtain ⟨i0,i1⟩:=hs
  simp only at i0 i1
  refine Tot.bindEq rfl ?_
  dsimp only
  refine Tot.dite (fun h1=> ?_) (fun h1=>Tot.exit (Tot.ret trivial))
  refine Tot.bindEq (nodeCount_nok hn) ?_
  refine Tot.make (by omega) (by omega) (by omega) ?_
  refine Tot.lp (fun s=>(0<=s.1/\s.1<=v+1)/\(s.2.length:Int)=nodesOf n) (fun s=>(v+1 - s.1).toNat) ⟨⟨by simp only;omega,by simp only;omega⟩,by simp only [List.length_replicate];omega⟩ (fun s hs=> ?_)
  obtain ⟨k,vs⟩:=s
  obtain ⟨⟨k0,k1⟩,hv⟩:=hs
  simp only at k0 k1 hv
  dsimp only
  refine Tot.dite (fun h2=> ?_) (fun h2=> ?_)
  · refine Tot.lp (fun s=>(0<=s.2.1/\s.2.1<=(cut.length:Int))/\(s.2.2.length:Int)=nodesOf n) (fun s=>((cut.length:Int) - s.2.1).toNat) ⟨⟨by simp only;omega,by simp only;omega⟩,hv⟩ (fun s hs=> ?_)
    obtain ⟨st,j,ws⟩:=s
    obtain ⟨⟨j0,j1⟩,hw⟩:=hs
    simp only at j0 j1 hw
    dsimp only
    refine Tot.dite (fun h3=> ?_) (fun h3=> ?_)
    · rw [wrap_ok (z:=j+1) (by omega)]
      refine Tot.get j0 h3 fun x _ _=> ?_
      refine Tot.dite (fun _=> ?_) (fun _=> ?_)
      · refine shift_tot (by omega) fun z=> ?_
        refine Tot.gin (by omega) (by omega) (Tot.get (by omega) (by omega) fun _ _ _=> ?_)
        exact Tot.next ⟨⟨⟨by simp only;omega,by simp only;omega⟩,by simp only [gset_len];exact hw⟩,by simp only;omega⟩
      · exact Tot.next ⟨⟨⟨by simp only;omega,by simp only;omega⟩,hw⟩,by simp only;omega⟩
    refine Tot.exit ?_
    rw [wrap_ok (z:=k+1) (by omega)]
    have nxt:∀q:List Int,(q.length:Int)=nodesOf n->Tot (some (Sum.inl (k+1,q):(Int×List Int)⊕((Int×Int)⊕(Int×Int)))) (SumP (fun s' =>((0<=s'.1/\s'.1<=v+1)/\(s'.2.length:Int)=nodesOf n)/\(v+1 - s'.1).toNat<(v+1 - k).toNat) (SumP (fun s' =>(0<=s'.1/\s'.1<=M)/\(M - s'.1).toNat<(M - i).toNat) (fun _=>True))):=fun q hq=>
      Tot.next ⟨⟨⟨by simp only;omega,by simp only;omega⟩,hq⟩,by simp only;omega⟩
    refine Tot.nite (fun _=> ?_) (fun _=>nxt ws hw)
    refine Tot.bindEq (first_nok hn) ?_
    refine Tot.dite (fun hkf=> ?_) (fun _=>nxt ws hw)
    refine Tot.bindEq (first_nok hn) ?_
    rw [wrap_ok (z:=k - firstOf n) (by omega)]
    refine Tot.get (by omega) (by omega) fun a ha _=> ?_
    have hl2:=and_at hn (show 0<=k - firstOf n by omega) (by omega)
    rw [<-ha] at hl2
    unfold Lit at hl2
    refine Tot.bind (bit_tot (by omega) (by omega) (by omega)) fun _ _=> ?_
    refine Tot.bind (bit_tot (by omega) (by omega) (by omega)) fun _ _=> ?_
    refine Tot.gin (by omega) (by omega) (Tot.get (by omega) (by omega) fun _ _ _=> ?_)
    exact nxt _ (by rw [gset_len];exact hw)
  refine Tot.exit ?_
  refine Tot.gin (by omega) (by omega) (Tot.get (by omega) (by omega) fun _ _ _=> ?_)
  refine shift_tot (by omega) fun z=> ?_
  rw [wrap_ok (z:=i+1) (by omega)]
  exact Tot.next ⟨⟨by simp only;omega,by simp only;omega⟩,by simp only;omega⟩
theorem tableNot_tot (t:Int×Int):Tot (spec_TableNot t) (fun _=>True):=by
  unfold spec_TableNot
  refine Tot.bindEq (tbl_spec t.1 t.2) ?_
  dsimp only
  refine Tot.ndite (fun _=>Tot.ret trivial) (fun h=> ?_)
  refine Tot.bindEq (full_cases h.1) ?_
  exact Tot.ret trivial
theorem nodes20_tot {to list:List Int} (hl:list.length<=1000) (h:∀x∈list,0<=x/\x<(to.length:Int)):Tot (spec_l20Nodes (to,list)) (fun r=>r.length=list.length):=by
  unfold spec_l20Nodes
  dsimp only
  refine Tot.lp (fun s=>(0<=s.1/\s.1<=(list.length:Int))/\(s.2.length:Int)=s.1) (fun s=>((list.length:Int) - s.1).toNat) ⟨⟨by simp only;omega,by simp only;omega⟩,by simp⟩ (fun s hs=> ?_)
  obtain ⟨i,r⟩:=s
  obtain ⟨⟨i0,i1⟩,hr⟩:=hs
  simp only at i0 i1 hr
  dsimp only
  refine Tot.dite (fun h1=> ?_) (fun h1=> ?_)
  · refine Tot.get i0 h1 fun y hy hm=> ?_
    refine Tot.get (h y hm).1 (h y hm).2 fun z _ _=> ?_
    refine Tot.app (by simp only [List.length_singleton];omega) (by omega) ?_
    rw [wrap_ok (z:=i+1) (by omega)]
    exact Tot.next ⟨⟨⟨by simp only;omega,by simp only;omega⟩,by simp only [List.length_append,List.length_singleton];omega⟩,by simp only;omega⟩
  exact Tot.exit (Tot.ret (by omega))
theorem roots20_tot {to neg list:List Int} {m:Int} (hl:list.length<=1000) (ht:(to.length:Int)=m) (hng:(neg.length:Int)=m) (h:∀x∈list,Lit x m) (hm:m<=1000):Tot (spec_l20Roots (to,(neg,list))) (fun r=>r.length=list.length):=by
  unfold spec_l20Roots
  dsimp only
  refine Tot.lp (fun s=>(0<=s.1/\s.1<=(list.length:Int))/\(s.2.length:Int)=s.1) (fun s=>((list.length:Int) - s.1).toNat) ⟨⟨by simp only;omega,by simp only;omega⟩,by simp⟩ (fun s hs=> ?_)
  obtain ⟨i,r⟩:=s
  obtain ⟨⟨i0,i1⟩,hr⟩:=hs
  simp only at i0 i1 hr
  dsimp only
  refine Tot.dite (fun h1=> ?_) (fun h1=> ?_)
  · rw [wrap_ok (z:=i+1) (by omega)]
    refine Tot.get i0 h1 fun y hy hm=> ?_
    have hy2:=h y hm
    unfold Lit at hy2
    refine Tot.rem (by omega) (by omega) ?_
    refine Tot.dite (fun _=> ?_) (fun _=> ?_)
    · refine Tot.get i0 h1 fun y2 hy2' _=> ?_
      have e:y2=y:=by rw [hy,hy2']
      subst e
      refine Tot.div2 (by omega) (by omega) ?_
      refine Tot.get (by omega) (by omega) fun z _ _=> ?_
      refine Tot.app (by simp only [List.length_singleton];omega) (by omega) ?_
      exact Tot.next ⟨⟨⟨by simp only;omega,by simp only;omega⟩,by simp only [List.length_append,List.length_singleton];omega⟩,by simp only;omega⟩
    · refine Tot.get i0 h1 fun y2 hy2' _=> ?_
      have e:y2=y:=by rw [hy,hy2']
      subst e
      refine Tot.div2 (by omega) (by omega) ?_
      refine Tot.get (by omega) (by omega) fun z _ _=> ?_
      refine Tot.app (by simp only [List.length_singleton];omega) (by omega) ?_
      exact Tot.next ⟨⟨⟨by simp only;omega,by simp only;omega⟩,by simp only [List.length_append,List.length_singleton];omega⟩,by simp only;omega⟩
  exact Tot.exit (Tot.ret (by omega))
end Go.Pf
