/-
  Own work. Draws, plainly: copies of nets, hashing, sweeping.
-/
import Derived.Test.YtjpkedhcbnklmaaNta
namespace Go.Pf
open Go Go.Pu
set_option linter.unusedVariables false
theorem gxor_in (a b:Int):I64 (gxor .i64 a b):=wrap_in _
def SqB (xs:List SSeq):Prop:=xs.length<=1000/\∀s∈xs,s.2.2.length<=1000/\∀x∈s.2.2,I64 x
theorem copySeqs_ok {xs:List SSeq} (h:SqB xs):spec_l08CopySeqs xs=some xs:=by
  have hl:=h.1
  unfold spec_l08CopySeqs
  have e0:((0:Int),([]:List SSeq))=(fun k:Nat=>((k:Int),xs.take k)) 0:=by simp
  dsimp only
  rw [e0]
  refine Eq.trans (loop_upto xs.length (fun k=>((k:Int),xs.take k)) (o:=xs.take xs.length) (fun k hk=> ?_) ?_) (by rw [List.take_length])
  · have h2:=(h.2 xs[k] (List.getElem_mem hk)).1
    have htl:(xs.take k).length<=k:=by rw [List.length_take];omega
    try dsimp only
    rw [dt (by omega),cond_true,gget_nat hk]
    simp only [Option.bind_some]
    rw [gapp_some (by simp only [List.length_nil];omega) (by simp only [List.length_nil];omega)]
    simp only [Option.bind_some,List.nil_append]
    rw [gapp_some (by simp only [List.length_singleton];omega) (by simp only [List.length_singleton];omega)]
    simp only [Option.bind_some,joinO]
    rw [wrap_ok (by omega),take_succ' xs k hk];rfl
  · try dsimp only
    rw [df (by omega),cond_false];rfl
theorem NB.sqb {n:SNet} (h:NB n):SqB n.2.1:=⟨h.sq,h.ins⟩
theorem copy_ok {n:SNet} (h:NB n):spec_l08Copy n=some n:=by
  unfold spec_l08Copy
  have ha:=h.an
  have ho:=h.ot
  rw [copySeqs_ok h.sqb]
  simp only [Option.bind_some]
  rw [gapp_some (by simp only [List.length_nil];omega) (by simp only [List.length_nil];omega)]
  simp only [Option.bind_some]
  rw [gapp_some (by simp only [List.length_nil];omega) (by simp only [List.length_nil];omega)]
  rfl
theorem NOk.nb {n:SNet} (h:NOk n):NB n:=by
  have hc:=caps_bd h.caps
  refine ⟨by have:=h.sq;omega,fun s hs=>⟨by have:=(h.ins s hs).1;omega,fun x hx=> ?_⟩,by have:=h.an;omega,fun a ha=> ?_,by have:=h.ot;omega,fun x hx=> ?_⟩
  · have:=(h.ins s hs).2 x hx;unfold Lit at this;unfold I64;omega
  · obtain ⟨i,hi,rfl⟩:=List.getElem_of_mem ha
    have:=h.ands i hi
    rw [List.getD,List.getElem?_eq_getElem hi] at this
    simp only [Option.getD_some] at this
    unfold Lit at this;unfold I64;omega
  · have:=h.outs x hx;unfold Lit at this;unfold I64;omega
structure EmptyOf (n:SNet) (r:SNet×List Int):Prop where
  inp:r.1.1=n.1
  sq:r.1.2.1.length=n.2.1.length
  ins:∀s∈r.1.2.1,s.2.2.length<=4/\∀x∈s.2.2,I64 x
  an:r.1.2.2.1=[]
  ot:r.1.2.2.2=[]
  to:(r.2.length:Int)=firstOf n
theorem empty_tot {n:SNet} (h:NOk n):Tot (spec_l10Empty n) (EmptyOf n):=by
  unfold spec_l10Empty
  have hc:=caps_bd h.caps
  have hsq:=h.sq
  refine Tot.join (A:=fun v=>v=n.2.1) (Tot.bindEq (copySeqs_ok h.nb.sqb) (Tot.next rfl)) fun v hv=> ?_
  subst hv
  refine Tot.lp (fun s=>(0<=s.1/\s.1<=firstOf n)/\(s.2.length:Int)=s.1) (fun s=>(firstOf n - s.1).toNat) ⟨⟨by simp only;omega,by simp only;omega⟩,by simp⟩ (fun s hs=> ?_)
  obtain ⟨i,to⟩:=s
  obtain ⟨⟨i0,i1⟩,hl⟩:=hs
  simp only at i0 i1 hl
  refine Tot.bindEq (first_nok h) ?_
  dsimp only
  refine Tot.dite (fun h1=> ?_) (fun h1=> ?_)
  · refine Tot.app (by simp only [List.length_singleton];omega) (by omega) ?_
    rw [wrap_ok (z:=i+1) (by omega)]
    exact Tot.next ⟨⟨⟨by simp only;omega,by simp only;omega⟩,by simp only [List.length_append,List.length_singleton];omega⟩,by simp only;omega⟩
  refine Tot.exit ?_
  refine Tot.lp (fun s=>(0<=s.1/\s.1<=(n.2.1.length:Int))/\s.2.length=n.2.1.length/\∀q∈s.2,q.2.2.length<=4/\∀x∈q.2.2,I64 x) (fun s=>((n.2.1.length:Int) - s.1).toNat) ⟨⟨by simp only;omega,by simp only;omega⟩,rfl,fun q hq=>⟨(h.ins q hq).1,(h.nb.ins q hq).2⟩⟩ (fun s hs=> ?_)
  obtain ⟨k,sq⟩:=s
  obtain ⟨⟨k0,k1⟩,hl2,hq⟩:=hs
  simp only at k0 k1 hl2 hq
  dsimp only
  refine Tot.dite (fun h2=> ?_) (fun h2=> ?_)
  · refine Tot.gin k0 h2 (Tot.get k0 h2 fun y hy hm=> ?_)
    have hym:=hq y hm
    refine Tot.make (by omega) (by omega) (by omega) ?_
    refine Tot.gin k0 h2 (Tot.get k0 h2 fun y2 hy2 hm2=> ?_)
    rw [wrap_ok (z:=k+1) (by omega)]
    refine Tot.next ⟨⟨⟨by simp only;omega,by simp only;omega⟩,by simp only [gset_len];exact hl2,fun q hq2=> ?_⟩,by simp only;omega⟩
    rcases gset_mem hq2 with hq2 | rfl
    · exact hq q hq2
    · refine ⟨by simp only [List.length_replicate];omega,fun x hx=> ?_⟩
      simp only at hx
      rw [List.eq_of_mem_replicate hx];unfold I64;omega
  exact Tot.exit (Tot.ret ⟨rfl,hl2,hq,rfl,rfl,by simp only;omega⟩)
theorem map10_tot {to lits:List Int} (hl:lits.length<=1000) (h:∀x∈lits,0<=x/\x/2<(to.length:Int)/\x<=9223372036854775807):Tot (spec_l10Map (to,lits)) (fun r=>r.length=lits.length/\∀x∈r,I64 x):=by
  unfold spec_l10Map
  dsimp only
  refine Tot.lp (fun s=>(0<=s.1/\s.1<=(lits.length:Int))/\(s.2.length:Int)=s.1/\∀x∈s.2,I64 x) (fun s=>((lits.length:Int) - s.1).toNat) ⟨⟨by simp only;omega,by simp only;omega⟩,by simp,fun x hx=>by simp at hx⟩ (fun s hs=> ?_)
  obtain ⟨i,r⟩:=s
  obtain ⟨⟨i0,i1⟩,hr,hx⟩:=hs
  simp only at i0 i1 hr hx
  dsimp only
  refine Tot.dite (fun h1=> ?_) (fun h1=> ?_)
  · refine Tot.get i0 h1 fun y hy hm=> ?_
    obtain ⟨y0,y1,y2⟩:=h y hm
    refine Tot.div2 y0 y2 ?_
    refine Tot.get (by omega) y1 fun z _ _=> ?_
    refine Tot.get i0 h1 fun w _ _=> ?_
    refine Tot.app (by simp only [List.length_singleton];omega) (by omega) ?_
    rw [wrap_ok (z:=i+1) (by omega)]
    refine Tot.next ⟨⟨⟨by simp only;omega,by simp only;omega⟩,by simp only [List.length_append,List.length_singleton];omega,fun x hx2=> ?_⟩,by simp only;omega⟩
    rcases List.mem_append.1 hx2 with hx2 | hx2
    · exact hx x hx2
    · rw [List.mem_singleton.1 hx2];exact gxor_in _ _
  exact Tot.exit (Tot.ret ⟨by omega,hx⟩)
structure AddOf (n:SNet) (r:SNet×Int):Prop where
  inp:r.1.1=n.1
  sq:r.1.2.1=n.2.1
  ot:r.1.2.2.2=n.2.2.2
  an:r.1.2.2.1.length<=n.2.2.1.length+1
  ands:∀a∈r.1.2.2.1,I64 a.1/\I64 a.2
  lit:I64 r.2
theorem addAnd_tot {n:SNet} (h:NB n) {a b:Int} (ha:I64 a) (hb:I64 b):Tot (spec_AddAnd (n,(a,b))) (AddOf n):=by
  unfold spec_AddAnd
  dsimp only
  have han:=h.an
  have base:∀x,I64 x->AddOf n (n,x):=fun x hx=>⟨rfl,rfl,rfl,Nat.le_succ _,h.ands,hx⟩
  have lit:∀x,I64 x->Tot (some ((n,x):SNet×Int)) (AddOf n):=fun x hx=>Tot.ret (base x hx)
  have m1:I64 (-1):=by unfold I64;omega
  have z0:I64 0:=by unfold I64;omega
  refine Tot.bindEq (copy_ok h) ?_
  refine Tot.bindEq (nodeCount_ok n) ?_
  refine Tot.bind (netOk_tot h) fun ok hok=> ?_
  refine Tot.nite (fun _=>lit _ m1) (fun ho=> ?_)
  have hok:=hok ho
  have hc:=caps_bd hok.caps
  rw [if_pos hok.caps,lit_ok ha]
  refine Tot.bindEq rfl ?_
  refine Tot.ndite (fun _=>lit _ m1) (fun ha2=> ?_)
  rw [lit_ok hb]
  refine Tot.bindEq rfl ?_
  refine Tot.ndite (fun _=>lit _ m1) (fun hb2=> ?_)
  refine Tot.dite (fun _=>lit _ z0) (fun _=> ?_)
  refine Tot.dite (fun _=>lit _ z0) (fun _=> ?_)
  refine Tot.dite (fun _=>lit _ z0) (fun _=> ?_)
  refine Tot.dite (fun _=>lit _ hb) (fun _=> ?_)
  refine Tot.dite (fun _=>lit _ hb) (fun _=> ?_)
  refine Tot.dite (fun _=>lit _ ha) (fun _=> ?_)
  refine Tot.lp (fun i=>0<=i/\i<=(n.2.2.1.length:Int)) (fun i=>((n.2.2.1.length:Int) - i).toNat) ⟨by omega,by omega⟩ (fun i hi=> ?_)
  obtain ⟨i0,i1⟩:=hi
  refine Tot.dite (fun h1=> ?_) (fun h1=> ?_)
  · refine Tot.get i0 h1 fun y _ _=> ?_
    refine Tot.ite (fun _=> ?_) (fun _=> ?_)
    · refine Tot.bindEq (first_nok hok) ?_
      exact Tot.exit (lit _ (wrap_in _))
    · rw [wrap_ok (z:=i+1) (by omega)]
      exact Tot.next ⟨⟨by omega,by omega⟩,by omega⟩
  refine Tot.exit ?_
  refine Tot.dite (fun _=>lit _ m1) (fun _=> ?_)
  refine Tot.app (by simp only [List.length_singleton];omega) (by omega) ?_
  refine Tot.ret ⟨rfl,rfl,rfl,by simp,fun q hq=> ?_,wrap_in _⟩
  simp only at hq
  rcases List.mem_append.1 hq with hq | hq
  · exact h.ands q hq
  · rw [List.mem_singleton.1 hq]
    refine ⟨?_,?_⟩
    · simp only;split;exact hb;exact ha
    · simp only;split;exact hb;exact ha
end Go.Pf
