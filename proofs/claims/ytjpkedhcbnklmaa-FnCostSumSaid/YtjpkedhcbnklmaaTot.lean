/-
  Own work. Results that are there and have a property: no panic, and an end.
-/
import Derived.Test.YtjpkedhcbnklmaaDrw
namespace Go.Pf
open Go Go.Pu
set_option linter.unusedVariables false
def Tot {α:Type} (X:Option α) (Q:α->Prop):Prop:=∃o,X=some o/\Q o
def SumP {α β:Type} (A:α->Prop) (Q:β->Prop):α⊕β->Prop
  | .inl a=>A a
  | .inr b=>Q b
section
variable {α β σ ω:Type}
theorem Tot.ret {a:α} {Q:α->Prop} (h:Q a):Tot (some a) Q:=⟨a,rfl,h⟩
theorem Tot.bind {X:Option α} {k:α->Option β} {A:α->Prop} {Q:β->Prop} (h:Tot X A) (hk:∀a,A a->Tot (k a) Q):Tot (X.bind k) Q:=by
  obtain ⟨o,h1,h2⟩:=h;rw [h1];exact hk o h2
theorem Tot.bindEq {X:Option α} {k:α->Option β} {a:α} {Q:β->Prop} (h:X=some a) (hk:Tot (k a) Q):Tot (X.bind k) Q:=by rw [h];exact hk
theorem Tot.ite {c:Bool} {a b:Option α} {Q:α->Prop} (h1:c=true->Tot a Q) (h2:c=false->Tot b Q):Tot (bif c then a else b) Q:=by
  cases c with
  | true=>exact h1 rfl
  | false=>exact h2 rfl
theorem Tot.nite {c:Bool} {a b:Option α} {Q:α->Prop} (h1:c=false->Tot a Q) (h2:c=true->Tot b Q):Tot (bif !c then a else b) Q:=by
  cases c with
  | true=>exact h2 rfl
  | false=>exact h1 rfl
theorem Tot.dite {p:Prop} [Decidable p] {a b:Option α} {Q:α->Prop} (h1:p->Tot a Q) (h2:¬p->Tot b Q):Tot (bif decide p then a else b) Q:=by
  by_cases h:p
  · rw [dt h];exact h1 h
  · rw [df h];exact h2 h
theorem Tot.ndite {p:Prop} [Decidable p] {a b:Option α} {Q:α->Prop} (h1:¬p->Tot a Q) (h2:p->Tot b Q):Tot (bif !decide p then a else b) Q:=by
  by_cases h:p
  · rw [dt h];exact h2 h
  · rw [df h];exact h1 h
theorem Tot.exit {X:Option β} {A:α->Prop} {Q:β->Prop} (h:Tot X Q):Tot (Option.map (Sum.inr:β->α⊕β) X) (SumP A Q):=by
  obtain ⟨o,h1,h2⟩:=h;rw [h1];exact ⟨_,rfl,h2⟩
theorem Tot.next {s:σ} {A:σ->Prop} {Q:ω->Prop} (h:A s):Tot (some (Sum.inl s:σ⊕ω)) (SumP A Q):=⟨_,rfl,h⟩
theorem Tot.join {X:Option (α⊕β)} {k:α->Option β} {A:α->Prop} {Q:β->Prop} (h:Tot X (SumP A Q)) (hk:∀a,A a->Tot (k a) Q):Tot (joinO X k) Q:=by
  obtain ⟨o,h1,h2⟩:=h
  rw [h1]
  cases o with
  | inl a=>exact hk a h2
  | inr b=>exact ⟨b,rfl,h2⟩
theorem Tot.lp {f:σ->Option (σ⊕ω)} (I:σ->Prop) (μ:σ->Nat) {Q:ω->Prop} {s0:σ} (h0:I s0) (h:∀s,I s->Tot (f s) (SumP (fun s' =>I s'∧μ s' <μ s) Q)):Tot (loop f s0) Q:=by
  refine loop_spec I Q μ (fun s hs=> ?_) s0 h0
  obtain ⟨o,h1,h2⟩:=h s hs
  cases o with
  | inl s' =>exact .inl ⟨s',h1,h2.1,h2.2⟩
  | inr o=>exact .inr ⟨o,h1,h2⟩
theorem Tot.get {d:α} {xs:List α} {i:Int} {k:α->Option β} {Q:β->Prop} (h0:0<=i) (h1:i<(xs.length:Int)) (hk:∀y,y=xs.getD i.toNat d->y∈xs->Tot (k y) Q):Tot ((gget d xs i).bind k) Q:=by
  rw [gget_some h0 h1]
  refine hk _ rfl ?_
  rw [List.getD,List.getElem?_eq_getElem (by omega)]
  exact List.getElem_mem _
theorem Tot.gin {n:Nat} {i:Int} {k:Unit->Option β} {Q:β->Prop} (h0:0<=i) (h1:i<(n:Int)) (hk:Tot (k ()) Q):Tot ((gin n i).bind k) Q:=by
  unfold Pu.gin;rw [if_pos ⟨h0,h1⟩];exact hk
theorem Tot.app {b:Nat} {xs ys:List α} {k:List α->Option β} {Q:β->Prop} (h:xs.length+ys.length<=1000000000) (hb:b<=100) (hk:Tot (k (xs++ys)) Q):Tot ((gapp b xs ys).bind k) Q:=by
  rw [gapp_some (by
    have:(xs.length+ys.length)*b<=1000000000*100:=Nat.mul_le_mul h hb
    omega) (by omega)]
  exact hk
theorem Tot.make {b:Nat} {d:α} {n:Int} {k:List α->Option β} {Q:β->Prop} (h0:0<=n) (h1:n<=1000000) (hb:b<=100) (hk:Tot (k (List.replicate n.toNat d)) Q):Tot ((gmake b d n).bind k) Q:=by
  have e:n=(n.toNat:Int):=by omega
  rw [e,gmake_nat (by
    have:n.toNat*b<=1000000*100:=Nat.mul_le_mul (by omega) hb
    omega) (by omega)]
  exact hk
theorem Tot.div2 {a:Int} {k:Int->Option β} {Q:β->Prop} (h0:0<=a) (h1:a<=9223372036854775807) (hk:Tot (k (a/2)) Q):Tot ((gdiv .i64 a 2).bind k) Q:=by
  rw [gdiv_nn h0 h1 (by omega)];exact hk
theorem Tot.rem {a b:Int} {k:Int->Option β} {Q:β->Prop} (h0:0<=a) (hb:0<b) (hk:Tot (k (a % b)) Q):Tot ((grem a b).bind k) Q:=by
  rw [grem_nn h0 hb];exact hk
theorem Tot.below {b:List Int} {c:Cur} {n:Int} {k:Int×Cur->Option β} {Q:β->Prop} (hb:CdOk b) (hc:CurOk b c) (hk:∀x c',CurOk b c'→(n<=0->x=0)->(0<n->0<=x/\x<n)->Tot (k (x,c')) Q):Tot ((spec_l01Below ((b,c),n)).bind k) Q:=by
  obtain ⟨x,c',e,k1,k2,k3⟩:=below_ok hb hc n
  rw [e];exact hk x c' k1 k2 k3
theorem Tot.once {b:List Int} {c:Cur} {n:Int} {k:Bool×Cur->Option β} {Q:β->Prop} (hb:CdOk b) (hc:CurOk b c) (hk:∀x c',CurOk b c'→Tot (k (x,c')) Q):Tot ((spec_l01Once ((b,c),n)).bind k) Q:=by
  obtain ⟨x,c',e,k1⟩:=once_ok hb hc n
  rw [e];exact hk x c' k1
theorem Tot.pick {b:List Int} {c:Cur} {l:List Int} {k:Int×Cur->Option β} {Q:β->Prop} (hb:CdOk b) (hc:CurOk b c) (hl:0<l.length) (hk:∀x c',CurOk b c'→x∈l->Tot (k (x,c')) Q):Tot ((spec_l01PickInt ((b,c),l)).bind k) Q:=by
  obtain ⟨x,c',e,k1,k2⟩:=pick_ok hb hc hl
  rw [e];exact hk x c' k1 k2
end
theorem gset_len {α:Type} (xs:List α) (i:Int) (x:α):(gset xs i x).length=xs.length:=by unfold gset;rw [List.length_set]
theorem gset_mem {α:Type} {xs:List α} {i:Int} {x y:α} (h:y∈gset xs i x):y∈xs\/y=x:=List.mem_or_eq_of_mem_set h
theorem getD_mem {α:Type} {xs:List α} {n:Nat} {d:α} (h:n<xs.length):xs.getD n d∈xs:=by
  rw [List.getD,List.getElem?_eq_getElem h];exact List.getElem_mem h
end Go.Pf
