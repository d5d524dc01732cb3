/-
  Own work. Draws, plainly: nets; which are valid; roots; copies.
-/
import Derived.Test.YtjpkedhcbnklmaaTot
import Derived.Test.YtjpkedhcbnklmaaD
namespace Go.Pf
open Go Go.Pu
set_option linter.unusedVariables false
theorem wrap_in (z:Int): -9223372036854775808<=wrap .i64 z/\wrap .i64 z<=9223372036854775807:=by
  unfold wrap
  have h:IntKind.wrap .i64 z=(z+9223372036854775808) % 18446744073709551616 - 9223372036854775808:=by
    rw [IntKind.wrap_i64]
  rw [h];omega
abbrev SSeq:=Int×(Int×List Int)
abbrev SAnd:=Int×Int
abbrev SNet:=Int×(List SSeq×(List SAnd×List Int))
def I64 (x:Int):Prop:= -9223372036854775808<=x/\x<=9223372036854775807
structure NB (n:SNet):Prop where
  sq:n.2.1.length<=1000
  ins:∀s∈n.2.1,s.2.2.length<=1000/\∀x∈s.2.2,I64 x
  an:n.2.2.1.length<=1000
  ands:∀a∈n.2.2.1,I64 a.1/\I64 a.2
  ot:n.2.2.2.length<=1000
  outs:∀x∈n.2.2.2,I64 x
def firstOf (n:SNet):Int:=1+n.1+(n.2.1.length:Int)
def nodesOf (n:SNet):Int:=firstOf n+(n.2.2.1.length:Int)
def Lit (x m:Int):Prop:=0<=x/\x<2*m
structure NOk (n:SNet):Prop where
  inp:0<=n.1/\n.1<=20
  sq:n.2.1.length<=12
  an:n.2.2.1.length<=300
  ot:n.2.2.2.length<=16
  ins:∀s∈n.2.1,s.2.2.length<=4/\∀x∈s.2.2,Lit x (nodesOf n)
  outs:∀x∈n.2.2.2,Lit x (nodesOf n)
  ands:∀i,i<n.2.2.1.length->Lit (n.2.2.1.getD i (0,0)).1 (firstOf n+(i:Int))/\Lit (n.2.2.1.getD i (0,0)).2 (firstOf n+(i:Int))
def capsOk (n:SNet):Prop:=(0<=n.1/\n.1<=20)/\n.2.1.length<=12/\n.2.2.1.length<=300/\n.2.2.2.length<=16
instance (n:SNet):Decidable (capsOk n):=by unfold capsOk;infer_instance
theorem NOk.caps {n:SNet} (h:NOk n):capsOk n:=⟨h.inp,h.sq,h.an,h.ot⟩
theorem nodeCount_ok (n:SNet):spec_NodeCount n=some (if capsOk n then nodesOf n else 0):=by
  unfold spec_NodeCount
  dsimp only
  rw [inR_spec]
  simp only [Option.bind_some]
  by_cases h1:0<=n.1/\n.1<=20
  rotate_left
  · rw [df h1,if_neg (fun e:capsOk n=>h1 e.1)];rfl
  rw [dt h1]
  simp only [Bool.not_true,cond_false]
  by_cases h2:n.2.1.length<=12
  rotate_left
  · rw [dt (by omega),if_neg (fun e:capsOk n=>h2 e.2.1)];rfl
  rw [df (by omega),cond_false]
  by_cases h3:n.2.2.1.length<=300
  rotate_left
  · rw [dt (by omega),if_neg (fun e:capsOk n=>h3 e.2.2.1)];rfl
  rw [df (by omega),cond_false]
  by_cases h4:n.2.2.2.length<=16
  rotate_left
  · rw [dt (by omega),if_neg (fun e:capsOk n=>h4 e.2.2.2)];rfl
  rw [df (by omega),cond_false,if_pos (show capsOk n from ⟨h1,h2,h3,h4⟩),wrap_ok (z:=1+n.1) (by omega),wrap_ok (z:=1+n.1+(n.2.1.length:Int)) (by omega),wrap_ok (by omega)]
  rfl
theorem nodeCount_nok {n:SNet} (h:NOk n):spec_NodeCount n=some (nodesOf n):=by rw [nodeCount_ok,if_pos h.caps]
theorem first_caps {n:SNet} (h:capsOk n):spec_l08First n=some (firstOf n):=by
  unfold spec_l08First
  obtain ⟨h1,h2,_⟩:=h
  dsimp only
  rw [wrap_ok (z:=1+n.1) (by omega),wrap_ok (by omega)];rfl
theorem first_nok {n:SNet} (h:NOk n):spec_l08First n=some (firstOf n):=first_caps h.caps
theorem caps_bd {n:SNet} (h:capsOk n):(1<=firstOf n/\firstOf n<=33)/\(1<=nodesOf n/\nodesOf n<=333)/\nodesOf n=firstOf n+(n.2.2.1.length:Int):=by
  obtain ⟨h1,h2,h3,_⟩:=h
  unfold nodesOf firstOf
  omega
theorem lit_ok {x m:Int} (hx:I64 x):spec_l08Lit (x,m)=some (decide (0<=x/\x/2<m)):=by
  unfold spec_l08Lit
  dsimp only
  unfold I64 at hx
  by_cases h:0<=x
  · rw [dt h,cond_true,gdiv_nn h hx.2 (by omega)]
    simp only [Option.bind_some]
    by_cases q:x/2<m
    · rw [dt q,dt ⟨h,q⟩]
    · rw [df q,df (fun e=>q e.2)]
  · rw [df h,df (fun e=>h e.1)];rfl
def rootsTo (n:SNet) (k:Nat):List Int:=n.2.2.2++(n.2.1.take k).flatMap (·.2.2)
def rootsOf (n:SNet):List Int:=rootsTo n n.2.1.length
theorem flat_len {xs:List SSeq} {K:Nat} (h:∀s∈xs,s.2.2.length<=K):(xs.flatMap (·.2.2)).length<=xs.length*K:=by
  induction xs with
  | nil=>simp
  | cons x xs ih=>
    have h1:=h x (by simp)
    have h2:=ih (fun s hs=>h s (by simp [hs]))
    rw [List.flatMap_cons,List.length_append,List.length_cons,Nat.succ_mul]
    omega
theorem roots_len {n:SNet} (h:NB n) (k:Nat):(rootsTo n k).length<=1001000:=by
  unfold rootsTo
  have h1:=flat_len (xs:=n.2.1.take k) (K:=1000) (fun s hs=>(h.ins s (List.mem_of_mem_take hs)).1)
  have h2:(n.2.1.take k).length<=1000:=by rw [List.length_take];have:=h.sq;omega
  have h3:(n.2.1.take k).length*1000<=1000*1000:=Nat.mul_le_mul_right _ h2
  have h4:=h.ot
  rw [List.length_append];omega
theorem roots_ok {n:SNet} (h:NB n):spec_l08Roots n=some (rootsOf n):=by
  unfold spec_l08Roots
  dsimp only
  have ho:=h.ot
  rw [gapp_some (by simp only [List.length_nil];omega) (by simp only [List.length_nil];omega)]
  simp only [Option.bind_some,List.nil_append]
  have e0:((0:Int),n.2.2.2)=(fun k:Nat=>((k:Int),rootsTo n k)) 0:=by simp [rootsTo]
  rw [e0]
  have hs:=h.sq
  refine loop_upto n.2.1.length (fun k=>((k:Int),rootsTo n k)) (fun k hk=> ?_) ?_
  · have h1:=roots_len h k
    have h2:=(h.ins n.2.1[k] (List.getElem_mem hk)).1
    try dsimp only
    rw [dt (by omega),cond_true,gget_nat hk]
    simp only [Option.bind_some]
    rw [gapp_some (by omega) (by omega)]
    simp only [Option.bind_some]
    rw [wrap_ok (by omega)]
    have e:rootsTo n (k+1)=rootsTo n k++n.2.1[k].2.2:=by
      unfold rootsTo
      rw [take_succ' n.2.1 k hk,List.flatMap_append];simp
    rw [e];rfl
  · try dsimp only
    rw [df (by omega),cond_false];rfl
theorem roots_mem {n:SNet} {x:Int}:x∈rootsOf n↔x∈n.2.2.2\/∃s∈n.2.1,x∈s.2.2:=by
  unfold rootsOf rootsTo
  rw [List.take_length,List.mem_append,List.mem_flatMap]
theorem take_all {α:Type} {xs:List α} {P:α->Prop} {i:Int} (h0:0<=i) (hi:i<(xs.length:Int)) {d:α} (h:∀x∈xs.take i.toNat,P x) (hy:P (xs.getD i.toNat d)):∀x∈xs.take (i+1).toNat,P x:=fun x hx=>by
  have e:(i+1).toNat=i.toNat+1:=by omega
  rw [e,take_succ' xs i.toNat (by omega),List.mem_append,List.mem_singleton] at hx
  rcases hx with hx | rfl
  · exact h x hx
  · rw [List.getD,List.getElem?_eq_getElem (by omega)] at hy;exact hy
theorem netOk_tot {n:SNet} (hb:NB n):Tot (spec_NetOk n) (fun b=>b=true->NOk n):=by
  unfold spec_NetOk
  dsimp only
  rw [nodeCount_ok]
  simp only [Option.bind_some]
  by_cases hc:capsOk n
  rotate_left
  · rw [if_neg hc,dt rfl,cond_true];exact Tot.ret (fun h=>by cases h)
  obtain ⟨hf,hn,hfn⟩:=caps_bd hc
  rw [if_pos hc,df (by omega),cond_false]
  have hsq:=hc.2.1
  have han:=hc.2.2.1
  have fals:∀{α:Type} {A:α->Prop},Tot (Option.map (Sum.inr:Bool->α⊕Bool) (some false)) (SumP A (fun b=>b=true->NOk n)):=Tot.exit (Tot.ret (fun h=>by cases h))
  refine Tot.lp (fun i=>(0<=i/\i<=(n.2.1.length:Int))/\∀s∈n.2.1.take i.toNat,s.2.2.length<=4) (fun i=>((n.2.1.length:Int) - i).toNat) ⟨⟨by omega,by omega⟩,fun s hs=>by simp at hs⟩ (fun i hi=> ?_)
  obtain ⟨⟨i0,i1⟩,hi2⟩:=hi
  refine Tot.dite (fun h1=> ?_) (fun h1=> ?_)
  · refine Tot.get i0 h1 fun s hs hm=> ?_
    have step:s.2.2.length<=4->Tot (some (Sum.inl (wrap .i64 (i+1)):Int⊕Bool)) (SumP (fun s' =>(((0<=s'∧s'≤(n.2.1.length:Int))/\∀s∈n.2.1.take s'.toNat,s.2.2.length<=4)/\((n.2.1.length:Int) - s').toNat<((n.2.1.length:Int) - i).toNat)) (fun b=>b=true->NOk n)):=fun h4=>by
      rw [wrap_ok (by omega)]
      exact Tot.next ⟨⟨⟨by omega,by omega⟩,take_all i0 h1 hi2 (by rw [<-hs];exact h4)⟩,by omega⟩
    rw [inR_spec]
    simp only [Option.bind_some]
    rw [inR_spec]
    simp only [Option.bind_some]
    refine Tot.dite (fun _=> ?_) (fun _=> ?_)
    · refine Tot.dite (fun _=> ?_) (fun _=> ?_)
      · refine Tot.dite (fun h4=>step (by omega)) (fun _=> ?_)
        refine Tot.dite (fun _=> ?_) (fun _=>fals)
        refine Tot.dite (fun _=> ?_) (fun _=>fals)
        exact Tot.ndite (fun _=>fals) (fun h4=>step (by omega))
      · refine Tot.dite (fun _=> ?_) (fun _=>fals)
        refine Tot.dite (fun _=> ?_) (fun _=>fals)
        exact Tot.ndite (fun _=>fals) (fun h4=>step (by omega))
    · refine Tot.dite (fun _=> ?_) (fun _=>fals)
      refine Tot.dite (fun _=> ?_) (fun _=>fals)
      exact Tot.ndite (fun _=>fals) (fun h4=>step (by omega))
  refine Tot.exit ?_
  have e1:i.toNat=n.2.1.length:=by omega
  rw [e1,List.take_length] at hi2
  rw [roots_ok hb]
  simp only [Option.bind_some]
  have hrl:(rootsOf n).length<=1001000:=roots_len hb _
  have hri:∀x∈rootsOf n,I64 x:=fun x hx=>by
    rcases roots_mem.1 hx with h | ⟨s,hs,h⟩
    · exact hb.outs x h
    · exact (hb.ins s hs).2 x h
  refine Tot.lp (fun i=>(0<=i/\i<=((rootsOf n).length:Int))/\∀x∈(rootsOf n).take i.toNat,Lit x (nodesOf n)) (fun i=>(((rootsOf n).length:Int) - i).toNat) ⟨⟨by omega,by omega⟩,fun s hs=>by simp at hs⟩ (fun j hj=> ?_)
  obtain ⟨⟨j0,j1⟩,hj2⟩:=hj
  refine Tot.dite (fun h2=> ?_) (fun h2=> ?_)
  · refine Tot.gin j0 h2 (Tot.get j0 h2 fun x hx hm=> ?_)
    rw [lit_ok (hri x hm)]
    simp only [Option.bind_some]
    refine Tot.ndite (fun _=>fals) (fun h4=> ?_)
    rw [wrap_ok (by omega)]
    exact Tot.next ⟨⟨⟨by omega,by omega⟩,take_all j0 h2 hj2 (by rw [<-hx];unfold Lit;omega)⟩,by omega⟩
  refine Tot.exit ?_
  have e2:j.toNat=(rootsOf n).length:=by omega
  rw [e2,List.take_length] at hj2
  refine Tot.lp (fun i=>(0<=i/\i<=(n.2.2.1.length:Int))/\∀k:Nat,(k:Int)<i->Lit (n.2.2.1.getD k (0,0)).1 (firstOf n+(k:Int))/\Lit (n.2.2.1.getD k (0,0)).2 (firstOf n+(k:Int))) (fun i=>((n.2.2.1.length:Int) - i).toNat) ⟨⟨by omega,by omega⟩,fun k hk=>by omega⟩ (fun k hk=> ?_)
  obtain ⟨⟨k0,k1⟩,hk2⟩:=hk
  refine Tot.dite (fun h3=> ?_) (fun h3=> ?_)
  · refine Tot.get k0 h3 fun a ha hm=> ?_
    have hab:=hb.ands a hm
    rw [first_caps hc]
    simp only [Option.bind_some]
    rw [wrap_ok (z:=firstOf n+k) (by omega),lit_ok hab.1]
    simp only [Option.bind_some]
    refine Tot.ndite (fun _=>fals) (fun h4=> ?_)
    refine Tot.get k0 h3 fun a2 ha2 hm2=> ?_
    have ea:a2=a:=by rw [ha,ha2]
    subst ea
    rw [lit_ok hab.2]
    simp only [Option.bind_some]
    refine Tot.ndite (fun _=>fals) (fun h5=> ?_)
    rw [wrap_ok (z:=k+1) (by omega)]
    refine Tot.next ⟨⟨⟨by omega,by omega⟩,fun q hq=> ?_⟩,by omega⟩
    by_cases c:(q:Int)<k
    · exact hk2 q c
    · have e3:k.toNat=q:=by omega
      rw [e3] at ha
      rw [<-ha]
      unfold Lit
      have:k=(q:Int):=by omega
      omega
  refine Tot.exit (Tot.ret fun _=> ?_)
  refine ⟨hc.1,hsq,han,hc.2.2.2,fun s hs=>⟨hi2 s hs,fun x hx=>hj2 x (roots_mem.2 (.inr ⟨s,hs,hx⟩))⟩,fun x hx=>hj2 x (roots_mem.2 (.inl hx)),fun q hq=>hk2 q (by omega)⟩
end Go.Pf
