/-
  Own work: parts Pl, PbA, Pln, Dvc, Drw, Tot, Nta, Ntc, Ntd, Dvd, Path, LawPathTo, Dve, Hlp, Pla, Use, Net, Srt, Cut, Cna, Src, Rok, Dsa, Ntb, Nte, Ntf, Ntg, Nth, Ntk, Ntl, Cva, Cvb, plain lemmas.
-/
import Derived.Test.YtjpkedhcbnklmaaPu3
import Derived.Test.YtjpkedhcbnklmaaD
/-
  Own work. Plain lemmas on loops, lists and wrapped integers (no program in sight).
-/
namespace Go.Pu
open Go
theorem loop_spec {σ ω:Type}{f:σ->Option (σ⊕ω)}(I:σ->Prop)(Q:ω->Prop)(μ:σ->Nat)(h:∀s,I s->(∃s',f s=some (.inl s')/\I s'∧μ s' <μ s)\/(∃o,f s=some (.inr o)/\Q o)):
 ∀s,I s->∃o,loop f s=some o/\Q o:=by
 have key:∀n s,μ s<n->I s->∃o,loop f s=some o/\Q o:=by
  intro n
  induction n with
  | zero=>intro s hs;omega
  | succ n ih=>
   intro s hs hi;rcases h s hi with⟨s',h1,h2,h3⟩ | ⟨o,h1,h2⟩
   ·obtain⟨o,h4,h5⟩:=ih s' (by omega) h2;exact⟨o,by rw[loop_eq,h1];exact h4,h5⟩
   ·exact⟨o,by rw[loop_eq,h1],h2⟩
 exact fun s hi=>key _ s (Nat.lt_succ_self _) hi
theorem wrap_id {z:Int}(h1: -9223372036854775808<=z)(h2:z<=9223372036854775807):wrap .i64 z=z:=by
 unfold wrap IntKind.wrap;simp[IntKind.bits,IntKind.signed];omega
theorem gget_some {α:Type}{d:α}{xs:List α}{i:Int}(h0:0<=i)(h1:i<(xs.length:Int)):gget d xs i=some (xs.getD i.toNat d):=by
 unfold gget;rw[if_pos ⟨h0,h1⟩]
theorem gin_some {n:Nat}{i:Int}(h0:0<=i)(h1:i<(n:Int)):gin n i=some ():=by
 unfold gin;rw[if_pos ⟨h0,h1⟩]
theorem gapp_some {α:Type}{b:Nat}{xs ys:List α}(h:(xs.length+ys.length)*b<=140737488355328)(h2:xs.length+ys.length<=140737488355328):gapp b xs ys=some (xs++ys):=by
 unfold gapp gfit;rw[if_pos (by simp[h,h2])]
end Go.Pu
/-
  Own work. Plain lemmas on loops over lists (no program in sight).
-/
namespace Go.Pf
open Go Go.Pu
theorem gget_nat {α:Type}{d:α}{xs:List α}{k:Nat}(h:k<xs.length):gget d xs (k:Int)=some (xs[k]'h):=by
 rw[gget_some (by omega) (by omega)];simp[List.getD,h]
theorem gin_nat {n k:Nat}(h:k<n):gin n (k:Int)=some ():=gin_some (by omega) (by omega)
theorem gset_nat {α:Type}(xs:List α)(k:Nat)(x:α):gset xs (k:Int) x=xs.set k x:=rfl
theorem dt {p:Prop} [Decidable p] (h:p):decide p=true:=decide_eq_true h
theorem df {p:Prop} [Decidable p] (h:¬p):decide p=false:=decide_eq_false h
theorem gmake_nat {α:Type}{b:Nat}{d:α}{n:Nat}(h:n*b<=140737488355328)(h2:n<=140737488355328):gmake b d (n:Int)=some (List.replicate n d):=by
 unfold gmake gfit;rw[if_pos (by constructor;omega;simp;omega)];simp
theorem wrap_ok {z:Int}(h: -9223372036854775808<=z/\z<=9223372036854775807):wrap .i64 z=z:=wrap_id h.1 h.2
theorem loop_run {σ ω:Type}{f:σ->Option (σ⊕ω)}(S:Nat->σ){o:ω}:∀(m n:Nat),(∀k,m<=k->k<m+n->f (S k)=some (.inl (S (k+1))))->f (S (m+n))=some (.inr o)->loop f (S m)=some o
 | m,0,_,h=>by rw[loop_eq,Nat.add_zero]at*;rw[h]
 | m,n+1,h1,h2=>by
  rw[loop_eq,h1 m (Nat.le_refl _) (by omega)];exact loop_run S (m+1) n (fun k q1 q2=>h1 k (by omega) (by omega)) (by rw[show m+1+n=m+(n+1)from by omega];exact h2)
theorem loop_upto {σ ω:Type}{f:σ->Option (σ⊕ω)}(n:Nat)(S:Nat->σ){o:ω}(h1:∀k,k<n->f (S k)=some (.inl (S (k+1))))(h2:f (S n)=some (.inr o)):loop f (S 0)=some o:=
 loop_run S 0 n (fun k _ h=>h1 k (by omega)) (by rw[Nat.zero_add];exact h2)
theorem loop_all {σ ω:Type}{f:σ->Option (σ⊕ω)}(n:Nat)(S:Nat->σ)(ok:Nat->Bool)(bad good:ω)(h1:∀k,k<n->ok k=true->f (S k)=some (.inl (S (k+1))))(h2:∀k,k<n->ok k=false->f (S k)=some (.inr bad))(h3:f (S n)=some (.inr good)):
 loop f (S 0)=some (if(List.range n).all ok then good else bad):=by
 have key:∀(m j:Nat),j+m=n->loop f (S j)=some (if(List.range' j m).all ok then good else bad):=by
  intro m
  induction m with
  | zero=>
   intro j hj;rw[loop_eq];have:j=n:=by omega
   subst this;rw[h3];simp
  | succ m ih=>
   intro j hj;rw[loop_eq,List.range'_succ,List.all_cons];cases hok:ok j with
   | true=>rw[h1 j (by omega) hok];simp only[Bool.true_and];exact ih (j+1) (by omega)
   | false=>rw[h2 j (by omega) hok];simp
 have:=key n 0 (by omega);rw[this,List.range_eq_range']
theorem all_range_list {α:Type}(xs:List α)(p:α->Bool)(ok:Nat->Bool)(h:∀k (hk:k<xs.length),ok k=p xs[k]):(List.range xs.length).all ok=xs.all p:=by
 rw[Bool.eq_iff_iff,List.all_eq_true,List.all_eq_true]
 constructor
 ·intro h1 x hx;obtain⟨k,hk,rfl⟩:=List.getElem_of_mem hx;rw[<-h k hk];exact h1 k (List.mem_range.2 hk)
 ·intro h1 k hk;have hk:=List.mem_range.1 hk;rw[h k hk];exact h1 _ (List.getElem_mem hk)
theorem take_succ' {α:Type}(xs:List α)(k:Nat)(h:k<xs.length):xs.take (k+1)=xs.take k++[xs[k]]:=(List.take_append_getElem h).symm
end Go.Pf
/-
  Own work. Plain laws of the small functions of the laws' file (lists of ints compared, marked, held).
-/
namespace Go.Pf
open Go Go.Pu
def marks (k:Int)(n:Nat):List Int:=(List.range n).map fun(j:Nat)=>k+(j:Int)
end Go.Pf
/-
  Own work. The device's functions, plainly.
-/
namespace Go.Pf
open Go Go.Pu
theorem inR_spec (x a b:Int):spec_l01In (x,(a,b))=some (decide (a<=x/\x<=b)):=by
 unfold spec_l01In;dsimp only;by_cases h:a<=x
 ·rw[dt h,cond_true];by_cases h2:x<=b
  ·rw[dt h2,dt ⟨h,h2⟩]
  ·rw[df h2,df (fun e=>h2 e.2)]
 ·rw[df h,cond_false,df (fun e=>h e.1)]
theorem inR_impl (x a b:Int):impl_inRange (x,(a,b))=some (decide (a<=x/\x<=b)):=inR_spec x a b
def DOk (d:Int×(Int×(Int×Int))):Prop:=(3<=d.1/\d.1<=6)/\(3<=d.2.1/\d.2.1<=6)/\(1<=d.2.2.1/\d.2.2.1<=4)/\(d.2.2.2= -1\/(1<=d.2.2.2/\d.2.2.2<=d.1 - 2))
instance (d:Int×(Int×(Int×Int))):Decidable (DOk d):=by unfold DOk;exact inferInstance
theorem grem_nn {a b:Int}(ha:0<=a)(hb:0<b):grem a b=some (a % b):=by
 unfold grem;rw[if_neg (by omega),Int.tmod_eq_emod_of_nonneg ha]
theorem gdiv_nn {a b:Int}(ha:0<=a)(ha2:a<=9223372036854775807)(hb:0<b):gdiv .i64 a b=some (a/b):=by
 have h1:0<=a/b:=Int.ediv_nonneg ha (by omega);have h2:a/b<=a:=Int.ediv_le_self _ ha;unfold gdiv;rw[if_neg (by omega),Int.tdiv_eq_ediv_of_nonneg ha,wrap_ok (by omega)]
def tkp (d:Int×(Int×(Int×Int)))(t:Int):Int:=
 if t % d.1=0\/t/d.1=0\/t % d.1=d.1 - 1\/t/d.1=d.2.1 - 1 then 0 else if t % d.1=d.2.2.2 then 2 else 1
def tk (d:Int×(Int×(Int×Int)))(t:Int):Int:=if DOk d/\0<=t/\t<d.1*d.2.1 then tkp d t else -1
def per (d:Int×(Int×(Int×Int))):Int:=7+4*d.2.2.1
def nodesN (d:Int×(Int×(Int×Int))):Int:=d.1*d.2.1*per d
def inP (k:Int):Int:=if k=0 then 1 else if k=1 then 5 else if k=2 then 4 else 0
def outP (k:Int):Int:=if k=0 then 1 else if k=1 then 2 else if k=2 then 1 else 0
end Go.Pf
/-
  Own work. Draws, plainly: the cursor.
-/
namespace Go.Pf
open Go Go.Pu
set_option linter.unusedVariables false
theorem gand_le (x:Int){m:Nat}(hm:m<4611686018427387904):0<=gand .i64 x (m:Int)/\gand .i64 x (m:Int)<=(m:Int):=by
 unfold gand;have h0:(BitVec.ofInt 64 x &&& BitVec.ofInt 64 (m:Int)).toNat<=m:=by
  rw[BitVec.toNat_and];refine Nat.le_trans Nat.and_le_right ?_
  rw[BitVec.toNat_ofInt];have:((m:Int) % ((2 ^ 64:Nat):Int)).toNat=m:=by omega
  omega
 show 0<=wrap .i64 ((BitVec.ofInt 64 x &&& BitVec.ofInt 64 (m:Int)).toNat:Int)/\wrap .i64 ((BitVec.ofInt 64 x &&& BitVec.ofInt 64 (m:Int)).toNat:Int)<=(m:Int);rw[wrap_ok (by omega)];omega
theorem gshift_ok (a:Int){b:Int}(h:0<=b/\b<64):∃z,gshift false .i64 a b=some z:=by
 unfold gshift;rw[if_pos (show 0<=b/\b<((IntKind.i64).bits:Int)from h)];exact⟨_,rfl⟩
abbrev Cur:=Int×Int
def CurOk (b:List Int)(c:Cur):Prop:=0<=c.1/\c.1<=(b.length:Int)
def CdOk (b:List Int):Prop:=b.length<=1048576
theorem byte_ok {b:List Int}{c:Cur}(hb:CdOk b)(hc:CurOk b c):∃x c',spec_l01Byte (b,c)=some (x,c')/\CurOk b c'∧0<=x/\x<=255:=by
 unfold CdOk at hb;unfold CurOk at hc;unfold spec_l01Byte;dsimp only;obtain⟨z1,h1⟩:=gshift_ok (wrap .i64 (wrap .i64 (c.2*6364136223846793005)+1442695040888963407)) (b:=33) (by omega);obtain⟨z2,h2⟩:=gshift_ok (wrap .i64 (wrap .i64 (c.2*6364136223846793005)+1442695040888963407)) (b:=45) (by omega);rw[h1,h2];simp only[Option.bind_some];by_cases q:c.1<(b.length:Int)
 ·rw[dt q,cond_true,gget_some (by omega) q];simp only[Option.bind_some];refine⟨_,_,rfl,?_,?_⟩
  ·rw[wrap_ok (by omega)];exact⟨by simp only;omega,by simp only;omega⟩
  ·exact gand_le _ (m:=255) (by omega)
 ·rw[df q,cond_false];exact⟨_,_,rfl,hc,gand_le _ (m:=255) (by omega)⟩
theorem grem_in {a n:Int}(h0:0<=a)(hn:0<n):∃z,grem a n=some z/\0<=z/\z<n:=by
 refine⟨a % n,grem_nn h0 hn,Int.emod_nonneg _ (by omega),Int.emod_lt_of_pos _ hn⟩
theorem below_ok {b:List Int}{c:Cur}(hb:CdOk b)(hc:CurOk b c)(n:Int):∃x c',spec_l01Below ((b,c),n)=some (x,c')/\CurOk b c'∧(n<=0->x=0)/\(0<n->0<=x/\x<n):=by
 unfold spec_l01Below;dsimp only;by_cases h1:n<=0
 ·rw[dt h1,cond_true];exact⟨0,c,rfl,hc,fun _=>rfl,fun h=>by omega⟩
 rw[df h1,cond_false];by_cases h2:n<=256
 ·rw[dt h2,cond_true];obtain⟨x,c1,e1,k1,x0,x1⟩:=byte_ok hb hc;rw[e1];simp only[Option.bind_some];obtain⟨z,e2,z0,z1⟩:=grem_in x0 (show 0<n by omega);rw[e2];exact⟨z,c1,rfl,k1,fun h=>by omega,fun _=>⟨z0,z1⟩⟩
 ·rw[df h2,cond_false];obtain⟨x,c1,e1,k1,x0,x1⟩:=byte_ok hb hc;obtain⟨y,c2,e2,k2,y0,y1⟩:=byte_ok hb k1;obtain⟨u,c3,e3,k3,u0,u1⟩:=byte_ok hb k2;obtain⟨w,c4,e4,k4,w0,w1⟩:=byte_ok hb k3;rw[e1];simp only[Option.bind_some];rw[e2];simp only[Option.bind_some];rw[e3];simp only[Option.bind_some];rw[e4];simp only[Option.bind_some];rw[wrap_ok (z:=x*16777216) (by omega),wrap_ok (z:=y*65536) (by omega),wrap_ok (z:=x*16777216+y*65536) (by omega),wrap_ok (z:=u*256) (by omega),wrap_ok (z:=x*16777216+y*65536+u*256) (by omega),wrap_ok (z:=x*16777216+y*65536+u*256+w) (by omega)];obtain⟨z,e5,z0,z1⟩:=grem_in (show 0<=x*16777216+y*65536+u*256+w by omega) (show 0<n by omega);rw[e5];exact⟨z,c4,rfl,k4,fun h=>by omega,fun _=>⟨z0,z1⟩⟩
theorem once_ok {b:List Int}{c:Cur}(hb:CdOk b)(hc:CurOk b c)(n:Int):∃x c',spec_l01Once ((b,c),n)=some (x,c')/\CurOk b c' :=by
 unfold spec_l01Once;obtain⟨x,c1,e1,k1,_⟩:=below_ok hb hc n;rw[e1];exact⟨_,c1,rfl,k1⟩
theorem new_ok {b:List Int}(hb:CdOk b):∃c,spec_l01New b=some c/\CurOk b c:=by
 unfold CdOk at hb;have key:∃o:Int⊕Cur,Pu.loop (fun(v3:(Int×Int))=>
  let v4:Int:=((b).length:Int)
  let v5:Bool:=decide (v3.2<v4)
  bif v5 then(
   let v6:Bool:=decide (v3.2<4000)
   bif v6 then(
    let v7:Int:=wrap .i64 (v3.1*131)
    (gget 0 b v3.2).bind fun v8=>
    let v9:Int:=wrap .i64 v8
    let v10:Int:=wrap .i64 (v7+v9)
    let v11:Int:=wrap .i64 (v10+7)
    let v12:Int:=gand .i64 v11 1073741823
    let v13:Int:=wrap .i64 (v3.2+1)
    some (.inl (v12,v13)))else
   Option.map Sum.inr (
    some (.inl v3.1)))else
  Option.map Sum.inr (
   some (.inl v3.1))) (wrap .i64 (33117+(b.length:Int)),0)=some o/\∃z,o= .inl z:=by
  refine loop_spec (fun s:Int×Int=>0<=s.2/\s.2<=(b.length:Int)) (fun o:Int⊕Cur=>∃z:Int,o= .inl z) (fun s=>((b.length:Int) - s.2).toNat) (fun s hs=> ?_) _ ⟨by simp,by simp⟩;obtain⟨h,i⟩:=s;obtain⟨i0,i1⟩:=hs;simp only at i0 i1;dsimp only;by_cases h1:i<(b.length:Int)
  ·rw[dt h1,cond_true];by_cases h2:i<4000
   ·left
    rw[dt h2,cond_true,gget_some i0 h1];simp only[Option.bind_some];refine⟨_,rfl,⟨?_,?_⟩,?_⟩
    ·simp only;rw[wrap_ok (by omega)];omega
    ·simp only;rw[wrap_ok (by omega)];omega
    ·simp only;rw[wrap_ok (by omega)];omega
   ·right
    rw[df h2,cond_false];exact⟨_,rfl,_,rfl⟩
  ·right
   rw[df h1,cond_false];exact⟨_,rfl,_,rfl⟩
 obtain⟨o,h1,z,rfl⟩:=key;unfold spec_l01New;dsimp only at h1 ⊢;rw[h1];exact⟨(0,z),rfl,by unfold CurOk;simp⟩
theorem big_ok (b:List Int):laws_big b=some (decide (1048576<(b.length:Int))):=rfl
end Go.Pf
/-
  Own work. Results that are there and have a property: no panic, and an end.
-/
namespace Go.Pf
open Go Go.Pu
set_option linter.unusedVariables false
def Tot {α:Type}(X:Option α)(Q:α->Prop):Prop:=∃o,X=some o/\Q o
def SumP {α β:Type}(A:α->Prop)(Q:β->Prop):α⊕β->Prop
 | .inl a=>A a
 | .inr b=>Q b
section
variable {α β σ ω:Type}
theorem Tot.mono {X:Option α}{P Q:α->Prop}(h:Tot X P)(hi:∀a,P a->Q a):Tot X Q:=by
 obtain⟨o,h1,h2⟩:=h;exact⟨o,h1,hi o h2⟩
theorem Tot.ret {a:α}{Q:α->Prop}(h:Q a):Tot (some a) Q:=⟨a,rfl,h⟩
theorem Tot.bind {X:Option α}{k:α->Option β}{A:α->Prop}{Q:β->Prop}(h:Tot X A)(hk:∀a,A a->Tot (k a) Q):Tot (X.bind k) Q:=by
 obtain⟨o,h1,h2⟩:=h;rw[h1];exact hk o h2
theorem Tot.bindEq {X:Option α}{k:α->Option β}{a:α}{Q:β->Prop}(h:X=some a)(hk:Tot (k a) Q):Tot (X.bind k) Q:=by rw[h];exact hk
theorem Tot.ite {c:Bool}{a b:Option α}{Q:α->Prop}(h1:c=true->Tot a Q)(h2:c=false->Tot b Q):Tot (bif c then a else b) Q:=by
 cases c with
 | true=>exact h1 rfl
 | false=>exact h2 rfl
theorem Tot.nite {c:Bool}{a b:Option α}{Q:α->Prop}(h1:c=false->Tot a Q)(h2:c=true->Tot b Q):Tot (bif !c then a else b) Q:=by
 cases c with
 | true=>exact h2 rfl
 | false=>exact h1 rfl
theorem Tot.dite {p:Prop} [Decidable p] {a b:Option α}{Q:α->Prop}(h1:p->Tot a Q)(h2:¬p->Tot b Q):Tot (bif decide p then a else b) Q:=by
 by_cases h:p
 ·rw[dt h];exact h1 h
 ·rw[df h];exact h2 h
theorem Tot.ndite {p:Prop} [Decidable p] {a b:Option α}{Q:α->Prop}(h1:¬p->Tot a Q)(h2:p->Tot b Q):Tot (bif !decide p then a else b) Q:=by
 by_cases h:p
 ·rw[dt h];exact h2 h
 ·rw[df h];exact h1 h
theorem Tot.exit {X:Option β}{A:α->Prop}{Q:β->Prop}(h:Tot X Q):Tot (Option.map (Sum.inr:β->α⊕β) X) (SumP A Q):=by
 obtain⟨o,h1,h2⟩:=h;rw[h1];exact⟨_,rfl,h2⟩
theorem Tot.next {s:σ}{A:σ->Prop}{Q:ω->Prop}(h:A s):Tot (some (Sum.inl s:σ⊕ω)) (SumP A Q):=⟨_,rfl,h⟩
theorem Tot.join {X:Option (α⊕β)}{k:α->Option β}{A:α->Prop}{Q:β->Prop}(h:Tot X (SumP A Q))(hk:∀a,A a->Tot (k a) Q):Tot (joinO X k) Q:=by
 obtain⟨o,h1,h2⟩:=h;rw[h1];cases o with
 | inl a=>exact hk a h2
 | inr b=>exact⟨b,rfl,h2⟩
theorem Tot.lp {f:σ->Option (σ⊕ω)}(I:σ->Prop)(μ:σ->Nat){Q:ω->Prop}{s0:σ}(h0:I s0)(h:∀s,I s->Tot (f s) (SumP (fun s' =>I s'∧μ s' <μ s) Q)):Tot (loop f s0) Q:=by
 refine loop_spec I Q μ (fun s hs=> ?_) s0 h0;obtain⟨o,h1,h2⟩:=h s hs;cases o with
 | inl s' =>exact .inl ⟨s',h1,h2.1,h2.2⟩
 | inr o=>exact .inr ⟨o,h1,h2⟩
theorem Tot.get {d:α}{xs:List α}{i:Int}{k:α->Option β}{Q:β->Prop}(h0:0<=i)(h1:i<(xs.length:Int))(hk:∀y,y=xs.getD i.toNat d->y∈xs->Tot (k y) Q):Tot ((gget d xs i).bind k) Q:=by
 rw[gget_some h0 h1];refine hk _ rfl ?_
 rw[List.getD,List.getElem?_eq_getElem (by omega)];exact List.getElem_mem _
theorem Tot.gin {n:Nat}{i:Int}{k:Unit->Option β}{Q:β->Prop}(h0:0<=i)(h1:i<(n:Int))(hk:Tot (k ()) Q):Tot ((gin n i).bind k) Q:=by
 unfold Pu.gin;rw[if_pos ⟨h0,h1⟩];exact hk
theorem Tot.app {b:Nat}{xs ys:List α}{k:List α->Option β}{Q:β->Prop}(h:xs.length+ys.length<=1000000000)(hb:b<=100)(hk:Tot (k (xs++ys)) Q):Tot ((gapp b xs ys).bind k) Q:=by
 rw[gapp_some (by
  have:(xs.length+ys.length)*b<=1000000000*100:=Nat.mul_le_mul h hb;omega) (by omega)]
 exact hk
theorem Tot.make {b:Nat}{d:α}{n:Int}{k:List α->Option β}{Q:β->Prop}(h0:0<=n)(h1:n<=1000000)(hb:b<=100)(hk:Tot (k (List.replicate n.toNat d)) Q):Tot ((gmake b d n).bind k) Q:=by
 have e:n=(n.toNat:Int):=by omega
 rw[e,gmake_nat (by
  have:n.toNat*b<=1000000*100:=Nat.mul_le_mul (by omega) hb;omega) (by omega)]
 exact hk
theorem Tot.div2 {a:Int}{k:Int->Option β}{Q:β->Prop}(h0:0<=a)(h1:a<=9223372036854775807)(hk:Tot (k (a/2)) Q):Tot ((gdiv .i64 a 2).bind k) Q:=by
 rw[gdiv_nn h0 h1 (by omega)];exact hk
theorem Tot.rem {a b:Int}{k:Int->Option β}{Q:β->Prop}(h0:0<=a)(hb:0<b)(hk:Tot (k (a % b)) Q):Tot ((grem a b).bind k) Q:=by
 rw[grem_nn h0 hb];exact hk
theorem Tot.below {b:List Int}{c:Cur}{n:Int}{k:Int×Cur->Option β}{Q:β->Prop}(hb:CdOk b)(hc:CurOk b c)(hk:∀x c',CurOk b c'→(n<=0->x=0)->(0<n->0<=x/\x<n)->Tot (k (x,c')) Q):Tot ((spec_l01Below ((b,c),n)).bind k) Q:=by
 obtain⟨x,c',e,k1,k2,k3⟩:=below_ok hb hc n;rw[e];exact hk x c' k1 k2 k3
theorem Tot.once {b:List Int}{c:Cur}{n:Int}{k:Bool×Cur->Option β}{Q:β->Prop}(hb:CdOk b)(hc:CurOk b c)(hk:∀x c',CurOk b c'→Tot (k (x,c')) Q):Tot ((spec_l01Once ((b,c),n)).bind k) Q:=by
 obtain⟨x,c',e,k1⟩:=once_ok hb hc n;rw[e];exact hk x c' k1
end
theorem gset_len {α:Type}(xs:List α)(i:Int)(x:α):(gset xs i x).length=xs.length:=by unfold gset;rw[List.length_set]
theorem gset_mem {α:Type}{xs:List α}{i:Int}{x y:α}(h:y∈gset xs i x):y∈xs\/y=x:=List.mem_or_eq_of_mem_set h
theorem getD_mem {α:Type}{xs:List α}{n:Nat}{d:α}(h:n<xs.length):xs.getD n d∈xs:=by
 rw[List.getD,List.getElem?_eq_getElem h];exact List.getElem_mem h
end Go.Pf
/-
  Own work. Draws, plainly: nets; which are valid; roots; copies.
-/
namespace Go.Pf
open Go Go.Pu
set_option linter.unusedVariables false
theorem wrap_in (z:Int): -9223372036854775808<=wrap .i64 z/\wrap .i64 z<=9223372036854775807:=by
 unfold wrap;have h:IntKind.wrap .i64 z=(z+9223372036854775808) % 18446744073709551616 - 9223372036854775808:=by
  rw[IntKind.wrap_i64]
 rw[h];omega
abbrev SSeq:=Int×(Int×List Int)
abbrev SAnd:=Int×Int
abbrev SNet:=Int×(List SSeq×(List SAnd×List Int))
def I64 (x:Int):Prop:= -9223372036854775808<=x/\x<=9223372036854775807
structure NB (n:SNet):Prop where
 sq:n.2.1.length<=1000
 ins:∀s∈n.2.1,s.2.2.length<=1000/\∀x∈s.2.2,I64 x
 an:n.2.2.1.length<=1000
 ands:∀a∈n.2.2.1,I64 a.1/\I64 a.2
 ot:n.2.2.2.length<=1000
 outs:∀x∈n.2.2.2,I64 x
def firstOf (n:SNet):Int:=1+n.1+(n.2.1.length:Int)
def nodesOf (n:SNet):Int:=firstOf n+(n.2.2.1.length:Int)
def Lit (x m:Int):Prop:=0<=x/\x<2*m
structure NOk (n:SNet):Prop where
 inp:0<=n.1/\n.1<=20
 sq:n.2.1.length<=12
 an:n.2.2.1.length<=300
 ot:n.2.2.2.length<=16
 ins:∀s∈n.2.1,s.2.2.length<=4/\∀x∈s.2.2,Lit x (nodesOf n)
 outs:∀x∈n.2.2.2,Lit x (nodesOf n)
 ands:∀i,i<n.2.2.1.length->Lit (n.2.2.1.getD i (0,0)).1 (firstOf n+(i:Int))/\Lit (n.2.2.1.getD i (0,0)).2 (firstOf n+(i:Int))
def capsOk (n:SNet):Prop:=(0<=n.1/\n.1<=20)/\n.2.1.length<=12/\n.2.2.1.length<=300/\n.2.2.2.length<=16
instance (n:SNet):Decidable (capsOk n):=by unfold capsOk;infer_instance
theorem NOk.caps {n:SNet}(h:NOk n):capsOk n:=⟨h.inp,h.sq,h.an,h.ot⟩
theorem nodeCount_ok (n:SNet):spec_NodeCount n=some (if capsOk n then nodesOf n else 0):=by
 unfold spec_NodeCount;dsimp only;rw[inR_spec];simp only[Option.bind_some];by_cases h1:0<=n.1/\n.1<=20
 rotate_left
 ·rw[df h1,if_neg (fun e:capsOk n=>h1 e.1)];rfl
 rw[dt h1];simp only[Bool.not_true,cond_false];by_cases h2:n.2.1.length<=12
 rotate_left
 ·rw[dt (by omega),if_neg (fun e:capsOk n=>h2 e.2.1)];rfl
 rw[df (by omega),cond_false];by_cases h3:n.2.2.1.length<=300
 rotate_left
 ·rw[dt (by omega),if_neg (fun e:capsOk n=>h3 e.2.2.1)];rfl
 rw[df (by omega),cond_false];by_cases h4:n.2.2.2.length<=16
 rotate_left
 ·rw[dt (by omega),if_neg (fun e:capsOk n=>h4 e.2.2.2)];rfl
 rw[df (by omega),cond_false,if_pos (show capsOk n from⟨h1,h2,h3,h4⟩),wrap_ok (z:=1+n.1) (by omega),wrap_ok (z:=1+n.1+(n.2.1.length:Int)) (by omega),wrap_ok (by omega)];rfl
theorem nodeCount_nok {n:SNet}(h:NOk n):spec_NodeCount n=some (nodesOf n):=by rw[nodeCount_ok,if_pos h.caps]
theorem first_caps {n:SNet}(h:capsOk n):spec_l08First n=some (firstOf n):=by
 unfold spec_l08First;obtain⟨h1,h2,_⟩:=h;dsimp only;rw[wrap_ok (z:=1+n.1) (by omega),wrap_ok (by omega)];rfl
theorem first_nok {n:SNet}(h:NOk n):spec_l08First n=some (firstOf n):=first_caps h.caps
theorem caps_bd {n:SNet}(h:capsOk n):(1<=firstOf n/\firstOf n<=33)/\(1<=nodesOf n/\nodesOf n<=333)/\nodesOf n=firstOf n+(n.2.2.1.length:Int):=by
 obtain⟨h1,h2,h3,_⟩:=h;unfold nodesOf firstOf;omega
theorem lit_ok {x m:Int}(hx:I64 x):spec_l08Lit (x,m)=some (decide (0<=x/\x/2<m)):=by
 unfold spec_l08Lit;dsimp only;unfold I64 at hx;by_cases h:0<=x
 ·rw[dt h,cond_true,gdiv_nn h hx.2 (by omega)];simp only[Option.bind_some];by_cases q:x/2<m
  ·rw[dt q,dt ⟨h,q⟩]
  ·rw[df q,df (fun e=>q e.2)]
 ·rw[df h,df (fun e=>h e.1)];rfl
def rootsTo (n:SNet)(k:Nat):List Int:=n.2.2.2++(n.2.1.take k).flatMap (·.2.2)
def rootsOf (n:SNet):List Int:=rootsTo n n.2.1.length
theorem flat_len {xs:List SSeq}{K:Nat}(h:∀s∈xs,s.2.2.length<=K):(xs.flatMap (·.2.2)).length<=xs.length*K:=by
 induction xs with
 | nil=>simp
 | cons x xs ih=>
  have h1:=h x (by simp);have h2:=ih (fun s hs=>h s (by simp[hs]));rw[List.flatMap_cons,List.length_append,List.length_cons,Nat.succ_mul];omega
theorem roots_len {n:SNet}(h:NB n)(k:Nat):(rootsTo n k).length<=1001000:=by
 unfold rootsTo;have h1:=flat_len (xs:=n.2.1.take k) (K:=1000) (fun s hs=>(h.ins s (List.mem_of_mem_take hs)).1);have h2:(n.2.1.take k).length<=1000:=by rw[List.length_take];have:=h.sq;omega
 have h3:(n.2.1.take k).length*1000<=1000*1000:=Nat.mul_le_mul_right _ h2;have h4:=h.ot;rw[List.length_append];omega
theorem roots_ok {n:SNet}(h:NB n):spec_l08Roots n=some (rootsOf n):=by
 unfold spec_l08Roots;dsimp only;have ho:=h.ot;rw[gapp_some (by simp only[List.length_nil];omega) (by simp only[List.length_nil];omega)];simp only[Option.bind_some,List.nil_append];have e0:((0:Int),n.2.2.2)=(fun k:Nat=>((k:Int),rootsTo n k)) 0:=by simp[rootsTo]
 rw[e0];have hs:=h.sq;refine loop_upto n.2.1.length (fun k=>((k:Int),rootsTo n k)) (fun k hk=> ?_) ?_
 ·have h1:=roots_len h k;have h2:=(h.ins n.2.1[k] (List.getElem_mem hk)).1
  try dsimp only
  rw[dt (by omega),cond_true,gget_nat hk];simp only[Option.bind_some];rw[gapp_some (by omega) (by omega)];simp only[Option.bind_some];rw[wrap_ok (by omega)];have e:rootsTo n (k+1)=rootsTo n k++n.2.1[k].2.2:=by
   unfold rootsTo;rw[take_succ' n.2.1 k hk,List.flatMap_append];simp
  rw[e];rfl
 ·try dsimp only
  rw[df (by omega),cond_false];rfl
theorem roots_mem {n:SNet}{x:Int}:x∈rootsOf n↔x∈n.2.2.2\/∃s∈n.2.1,x∈s.2.2:=by
 unfold rootsOf rootsTo;rw[List.take_length,List.mem_append,List.mem_flatMap]
theorem take_all {α:Type}{xs:List α}{P:α->Prop}{i:Int}(h0:0<=i)(hi:i<(xs.length:Int)){d:α}(h:∀x∈xs.take i.toNat,P x)(hy:P (xs.getD i.toNat d)):∀x∈xs.take (i+1).toNat,P x:=fun x hx=>by
 have e:(i+1).toNat=i.toNat+1:=by omega
 rw[e,take_succ' xs i.toNat (by omega),List.mem_append,List.mem_singleton]at hx;rcases hx with hx | rfl
 ·exact h x hx
 ·rw[List.getD,List.getElem?_eq_getElem (by omega)]at hy;exact hy
theorem netOk_tot {n:SNet}(hb:NB n):Tot (spec_NetOk n) (fun b=>b=true->NOk n):=by
 unfold spec_NetOk;dsimp only;rw[nodeCount_ok];simp only[Option.bind_some];by_cases hc:capsOk n
 rotate_left
 ·rw[if_neg hc,dt rfl,cond_true];exact Tot.ret (fun h=>by cases h)
 obtain⟨hf,hn,hfn⟩:=caps_bd hc;rw[if_pos hc,df (by omega),cond_false];have hsq:=hc.2.1;have han:=hc.2.2.1;have fals:∀{α:Type} {A:α->Prop},Tot (Option.map (Sum.inr:Bool->α⊕Bool) (some false)) (SumP A (fun b=>b=true->NOk n)):=Tot.exit (Tot.ret (fun h=>by cases h));refine Tot.lp (fun i=>(0<=i/\i<=(n.2.1.length:Int))/\∀s∈n.2.1.take i.toNat,s.2.2.length<=4) (fun i=>((n.2.1.length:Int) - i).toNat) ⟨⟨by omega,by omega⟩,fun s hs=>by simp at hs⟩ (fun i hi=> ?_);obtain⟨⟨i0,i1⟩,hi2⟩:=hi;refine Tot.dite (fun h1=> ?_) (fun h1=> ?_)
 ·refine Tot.get i0 h1 fun s hs hm=> ?_
  have step:s.2.2.length<=4->Tot (some (Sum.inl (wrap .i64 (i+1)):Int⊕Bool)) (SumP (fun s' =>(((0<=s'∧s'≤(n.2.1.length:Int))/\∀s∈n.2.1.take s'.toNat,s.2.2.length<=4)/\((n.2.1.length:Int) - s').toNat<((n.2.1.length:Int) - i).toNat)) (fun b=>b=true->NOk n)):=fun h4=>by
   rw[wrap_ok (by omega)];exact Tot.next ⟨⟨⟨by omega,by omega⟩,take_all i0 h1 hi2 (by rw[<-hs];exact h4)⟩,by omega⟩
  rw[inR_spec];simp only[Option.bind_some];rw[inR_spec];simp only[Option.bind_some];refine Tot.dite (fun _=> ?_) (fun _=> ?_)
  ·refine Tot.dite (fun _=> ?_) (fun _=> ?_)
   ·refine Tot.dite (fun h4=>step (by omega)) (fun _=> ?_);refine Tot.dite (fun _=> ?_) (fun _=>fals);refine Tot.dite (fun _=> ?_) (fun _=>fals);exact Tot.ndite (fun _=>fals) (fun h4=>step (by omega))
   ·refine Tot.dite (fun _=> ?_) (fun _=>fals);refine Tot.dite (fun _=> ?_) (fun _=>fals);exact Tot.ndite (fun _=>fals) (fun h4=>step (by omega))
  ·refine Tot.dite (fun _=> ?_) (fun _=>fals);refine Tot.dite (fun _=> ?_) (fun _=>fals);exact Tot.ndite (fun _=>fals) (fun h4=>step (by omega))
 refine Tot.exit ?_
 have e1:i.toNat=n.2.1.length:=by omega
 rw[e1,List.take_length]at hi2;rw[roots_ok hb];simp only[Option.bind_some];have hrl:(rootsOf n).length<=1001000:=roots_len hb _;have hri:∀x∈rootsOf n,I64 x:=fun x hx=>by
  rcases roots_mem.1 hx with h | ⟨s,hs,h⟩
  ·exact hb.outs x h
  ·exact(hb.ins s hs).2 x h
 refine Tot.lp (fun i=>(0<=i/\i<=((rootsOf n).length:Int))/\∀x∈(rootsOf n).take i.toNat,Lit x (nodesOf n)) (fun i=>(((rootsOf n).length:Int) - i).toNat) ⟨⟨by omega,by omega⟩,fun s hs=>by simp at hs⟩ (fun j hj=> ?_);obtain⟨⟨j0,j1⟩,hj2⟩:=hj;refine Tot.dite (fun h2=> ?_) (fun h2=> ?_)
 ·refine Tot.gin j0 h2 (Tot.get j0 h2 fun x hx hm=> ?_);rw[lit_ok (hri x hm)];simp only[Option.bind_some];refine Tot.ndite (fun _=>fals) (fun h4=> ?_);rw[wrap_ok (by omega)];exact Tot.next ⟨⟨⟨by omega,by omega⟩,take_all j0 h2 hj2 (by rw[<-hx];unfold Lit;omega)⟩,by omega⟩
 refine Tot.exit ?_
 have e2:j.toNat=(rootsOf n).length:=by omega
 rw[e2,List.take_length]at hj2;refine Tot.lp (fun i=>(0<=i/\i<=(n.2.2.1.length:Int))/\∀k:Nat,(k:Int)<i->Lit (n.2.2.1.getD k (0,0)).1 (firstOf n+(k:Int))/\Lit (n.2.2.1.getD k (0,0)).2 (firstOf n+(k:Int))) (fun i=>((n.2.2.1.length:Int) - i).toNat) ⟨⟨by omega,by omega⟩,fun k hk=>by omega⟩ (fun k hk=> ?_);obtain⟨⟨k0,k1⟩,hk2⟩:=hk;refine Tot.dite (fun h3=> ?_) (fun h3=> ?_)
 ·refine Tot.get k0 h3 fun a ha hm=> ?_
  have hab:=hb.ands a hm;rw[first_caps hc];simp only[Option.bind_some];rw[wrap_ok (z:=firstOf n+k) (by omega),lit_ok hab.1];simp only[Option.bind_some];refine Tot.ndite (fun _=>fals) (fun h4=> ?_);refine Tot.get k0 h3 fun a2 ha2 hm2=> ?_
  have ea:a2=a:=by rw[ha,ha2]
  subst ea;rw[lit_ok hab.2];simp only[Option.bind_some];refine Tot.ndite (fun _=>fals) (fun h5=> ?_);rw[wrap_ok (z:=k+1) (by omega)];refine Tot.next ⟨⟨⟨by omega,by omega⟩,fun q hq=> ?_⟩,by omega⟩;by_cases c:(q:Int)<k
  ·exact hk2 q c
  ·have e3:k.toNat=q:=by omega
   rw[e3]at ha;rw[<-ha];unfold Lit;have:k=(q:Int):=by omega
   omega
 refine Tot.exit (Tot.ret fun _=> ?_);refine⟨hc.1,hsq,han,hc.2.2.2,fun s hs=>⟨hi2 s hs,fun x hx=>hj2 x (roots_mem.2 (.inr ⟨s,hs,hx⟩))⟩,fun x hx=>hj2 x (roots_mem.2 (.inl hx)),fun q hq=>hk2 q (by omega)⟩
end Go.Pf
/-
  Own work. Draws, plainly: copies of nets, hashing, sweeping.
-/
namespace Go.Pf
open Go Go.Pu
set_option linter.unusedVariables false
def SqB (xs:List SSeq):Prop:=xs.length<=1000/\∀s∈xs,s.2.2.length<=1000/\∀x∈s.2.2,I64 x
theorem copySeqs_ok {xs:List SSeq}(h:SqB xs):spec_l08CopySeqs xs=some xs:=by
 have hl:=h.1;unfold spec_l08CopySeqs;have e0:((0:Int),([]:List SSeq))=(fun k:Nat=>((k:Int),xs.take k)) 0:=by simp
 dsimp only;rw[e0];refine Eq.trans (loop_upto xs.length (fun k=>((k:Int),xs.take k)) (o:=xs.take xs.length) (fun k hk=> ?_) ?_) (by rw[List.take_length])
 ·have h2:=(h.2 xs[k] (List.getElem_mem hk)).1;have htl:(xs.take k).length<=k:=by rw[List.length_take];omega
  try dsimp only
  rw[dt (by omega),cond_true,gget_nat hk];simp only[Option.bind_some];rw[gapp_some (by simp only[List.length_nil];omega) (by simp only[List.length_nil];omega)];simp only[Option.bind_some,List.nil_append];rw[gapp_some (by simp only[List.length_singleton];omega) (by simp only[List.length_singleton];omega)];simp only[Option.bind_some,joinO];rw[wrap_ok (by omega),take_succ' xs k hk];rfl
 ·try dsimp only
  rw[df (by omega),cond_false];rfl
theorem NB.sqb {n:SNet}(h:NB n):SqB n.2.1:=⟨h.sq,h.ins⟩
theorem copy_ok {n:SNet}(h:NB n):spec_l08Copy n=some n:=by
 unfold spec_l08Copy;have ha:=h.an;have ho:=h.ot;rw[copySeqs_ok h.sqb];simp only[Option.bind_some];rw[gapp_some (by simp only[List.length_nil];omega) (by simp only[List.length_nil];omega)];simp only[Option.bind_some];rw[gapp_some (by simp only[List.length_nil];omega) (by simp only[List.length_nil];omega)];rfl
theorem NOk.nb {n:SNet}(h:NOk n):NB n:=by
 have hc:=caps_bd h.caps;refine⟨by have:=h.sq;omega,fun s hs=>⟨by have:=(h.ins s hs).1;omega,fun x hx=> ?_⟩,by have:=h.an;omega,fun a ha=> ?_,by have:=h.ot;omega,fun x hx=> ?_⟩
 ·have:=(h.ins s hs).2 x hx;unfold Lit at this;unfold I64;omega
 ·obtain⟨i,hi,rfl⟩:=List.getElem_of_mem ha;have:=h.ands i hi;rw[List.getD,List.getElem?_eq_getElem hi]at this;simp only[Option.getD_some]at this;unfold Lit at this;unfold I64;omega
 ·have:=h.outs x hx;unfold Lit at this;unfold I64;omega
end Go.Pf
/-
  Own work. Draws, plainly: cones, sweeping, hashing, drawn nets.
-/
namespace Go.Pf
open Go Go.Pu
set_option linter.unusedVariables false
def Low (m:Int)(xs:List Bool):Prop:=∀k:Nat,m<(k:Int)->xs.getD k false=false
theorem low_set {m:Int}{xs:List Bool}{i:Int}(h:Low m xs)(h0:0<=i)(hi:i<=m)(b:Bool):Low m (gset xs i b):=fun k hk=>by
 unfold gset;rw[List.getD,List.getElem?_set_ne (by omega)];exact h k hk
theorem and_at {n:SNet}(h:NOk n){i:Int}(h0:0<=i)(h1:i<(n.2.2.1.length:Int)):Lit (n.2.2.1.getD i.toNat (0,0)).1 (firstOf n+i)/\Lit (n.2.2.1.getD i.toNat (0,0)).2 (firstOf n+i):=by
 have:=h.ands i.toNat (by omega);have e:(i.toNat:Int)=i:=by omega
 rw[e]at this;exact this
theorem mark_tot {n:SNet}(h:NOk n){marks:List Bool}(hm:(marks.length:Int)=nodesOf n){m:Int}(hl:Low m marks):Tot (spec_l08Mark (n,marks)) (fun r=>(r.length:Int)=nodesOf n/\Low m r):=by
 unfold spec_l08Mark;dsimp only;have hc:=caps_bd h.caps;have han:=h.an;refine Tot.app (by simp only[List.length_nil];omega) (by omega) ?_
 rw[List.nil_append,wrap_ok (by omega)];refine Tot.lp (fun s=>(-1<=s.1/\s.1<(n.2.2.1.length:Int))/\(s.2.length:Int)=nodesOf n/\Low m s.2) (fun s=>(s.1+1).toNat) ⟨⟨by simp only;omega,by simp only;omega⟩,hm,hl⟩ (fun s hs=> ?_);obtain⟨i,r⟩:=s;obtain⟨⟨i0,i1⟩,hr,hlr⟩:=hs;simp only at i0 i1 hr hlr;dsimp only;refine Tot.dite (fun h1=> ?_) (fun h1=> ?_)
 ·refine Tot.bindEq (first_nok h) ?_
  rw[wrap_ok (z:=firstOf n+i) (by omega),wrap_ok (z:=i - 1) (by omega)];refine Tot.gin (by omega) (by omega) (Tot.get (by omega) (by omega) fun b hb _=> ?_);refine Tot.ite (fun hbt=> ?_) (fun _=> ?_)
  ·have hle:firstOf n+i<=m:=by
    by_cases c:m<firstOf n+i
    ·have:=hlr (firstOf n+i).toNat (by omega);rw[hb,this]at hbt;cases hbt
    ·omega
   refine Tot.get h1 i1 fun a ha _=> ?_
   have haa:=and_at h h1 i1;rw[<-ha]at haa;unfold Lit at haa;refine Tot.div2 (by omega) (by omega) ?_
   refine Tot.gin (by omega) (by omega) (Tot.get (by omega) (by omega) fun _ _ _=> ?_);refine Tot.get h1 i1 fun a2 ha2 _=> ?_
   have e:a2=a:=by rw[ha,ha2]
   subst e;refine Tot.div2 (by omega) (by omega) ?_
   refine Tot.gin (by omega) (by rw[gset_len];omega) (Tot.get (by omega) (by rw[gset_len];omega) fun _ _ _=> ?_);refine Tot.next ⟨⟨⟨by simp only;omega,by simp only;omega⟩,by simp only[gset_len];exact hr,low_set (low_set hlr (by omega) (by omega) _) (by omega) (by omega) _⟩,by simp only;omega⟩
  ·exact Tot.next ⟨⟨⟨by simp only;omega,by simp only;omega⟩,hr,hlr⟩,by simp only;omega⟩
 exact Tot.exit (Tot.ret ⟨hr,hlr⟩)
theorem reached_tot {n:SNet}(h:NOk n):Tot (spec_Reached n) (fun r=>r=[]\/(r.length:Int)=nodesOf n):=by
 unfold spec_Reached;have hc:=caps_bd h.caps;refine Tot.bind (netOk_tot h.nb) fun ok hok=> ?_
 dsimp only;refine Tot.nite (fun _=>Tot.ret (.inl rfl)) (fun _=> ?_);refine Tot.bindEq (nodeCount_nok h) ?_
 refine Tot.make (by omega) (by omega) (by omega) ?_
 refine Tot.bindEq (roots_ok h.nb) ?_
 have hrl:(rootsOf n).length<=1001000:=roots_len h.nb _;refine Tot.lp (fun s=>(0<=s.1/\s.1<=((rootsOf n).length:Int))/\(s.2.length:Int)=nodesOf n) (fun s=>(((rootsOf n).length:Int) - s.1).toNat) ⟨⟨by simp only;omega,by simp only;omega⟩,by simp only[List.length_replicate];omega⟩ (fun s hs=> ?_);obtain⟨i,r⟩:=s;obtain⟨⟨i0,i1⟩,hr⟩:=hs;simp only at i0 i1 hr;dsimp only;refine Tot.dite (fun h1=> ?_) (fun h1=> ?_)
 ·refine Tot.gin i0 h1 (Tot.get i0 h1 fun x _ hx=> ?_);have hlx:Lit x (nodesOf n):=by
   rcases roots_mem.1 hx with q | ⟨s,hs,q⟩
   ·exact h.outs x q
   ·exact(h.ins s hs).2 x q
  unfold Lit at hlx;refine Tot.div2 (by omega) (by omega) ?_
  refine Tot.gin (by omega) (by omega) (Tot.get (by omega) (by omega) fun _ _ _=> ?_);rw[wrap_ok (z:=i+1) (by omega)];exact Tot.next ⟨⟨⟨by simp only;omega,by simp only;omega⟩,by simp only[gset_len];exact hr⟩,by simp only;omega⟩
 refine Tot.exit ?_
 refine Tot.bind (mark_tot h hr (m:=1000000) (fun k hk=> ?_)) fun r hr=>Tot.ret (.inr hr.1)
 rw[List.getD,List.getElem?_eq_none (by omega)];rfl
theorem reached_nok {n:SNet}(h:NOk n)(hk:spec_NetOk n=some true):Tot (spec_Reached n) (fun r=>(r.length:Int)=nodesOf n):=by
 obtain⟨o,h1,h2⟩:=reached_tot h;refine⟨o,h1,?_⟩;rcases h2 with h2 | h2
 ·exfalso
  subst h2;unfold spec_Reached at h1;rw[hk]at h1;simp only[Option.bind_some,Bool.not_true,cond_false]at h1;rw[nodeCount_nok h]at h1;have hc:=caps_bd h.caps;have hrl:(rootsOf n).length<=1001000:=roots_len h.nb _;have key:Tot (spec_Reached n) (fun r=>(r.length:Int)=nodesOf n):=by
   unfold spec_Reached;refine Tot.bindEq hk ?_
   dsimp only;refine Tot.nite (fun e=>by cases e) (fun _=> ?_);refine Tot.bindEq (nodeCount_nok h) ?_
   refine Tot.make (by omega) (by omega) (by omega) ?_
   refine Tot.bindEq (roots_ok h.nb) ?_
   refine Tot.lp (fun s=>(0<=s.1/\s.1<=((rootsOf n).length:Int))/\(s.2.length:Int)=nodesOf n) (fun s=>(((rootsOf n).length:Int) - s.1).toNat) ⟨⟨by simp only;omega,by simp only;omega⟩,by simp only[List.length_replicate];omega⟩ (fun s hs=> ?_);obtain⟨i,r⟩:=s;obtain⟨⟨i0,i1⟩,hr⟩:=hs;simp only at i0 i1 hr;dsimp only;refine Tot.dite (fun h1=> ?_) (fun h1=> ?_)
   ·refine Tot.gin i0 h1 (Tot.get i0 h1 fun x _ hx=> ?_);have hlx:Lit x (nodesOf n):=by
     rcases roots_mem.1 hx with q | ⟨s,hs,q⟩
     ·exact h.outs x q
     ·exact(h.ins s hs).2 x q
    unfold Lit at hlx;refine Tot.div2 (by omega) (by omega) ?_
    refine Tot.gin (by omega) (by omega) (Tot.get (by omega) (by omega) fun _ _ _=> ?_);rw[wrap_ok (z:=i+1) (by omega)];exact Tot.next ⟨⟨⟨by simp only;omega,by simp only;omega⟩,by simp only[gset_len];exact hr⟩,by simp only;omega⟩
   refine Tot.exit ?_
   refine Tot.bind (mark_tot h hr (m:=1000000) (fun k hk=> ?_)) fun r hr=>Tot.ret hr.1
   rw[List.getD,List.getElem?_eq_none (by omega)];rfl
  obtain⟨o,k1,k2⟩:=key;unfold spec_Reached at k1;rw[hk]at k1;simp only[Option.bind_some,Bool.not_true,cond_false]at k1;rw[nodeCount_nok h]at k1;rw[h1]at k1;cases k1;simp only[List.length_nil]at k2;omega
 ·exact h2
theorem cone_tot {n:SNet}(h:NB n){v:Int}:Tot (spec_Cone (n,v)) (fun r=>r.length<=1000/\∀x∈r,0<=x/\x<=v/\NOk n/\v<nodesOf n):=by
 unfold spec_Cone;dsimp only;refine Tot.bind (netOk_tot h) fun ok hok=> ?_
 refine Tot.nite (fun _=>Tot.ret ⟨by simp,fun x hx=>(by cases hx)⟩) (fun ho=> ?_);have hn:=hok ho;have hc:=caps_bd hn.caps;refine Tot.dite (fun _=>Tot.ret ⟨by simp,fun x hx=>(by cases hx)⟩) (fun v0=> ?_);refine Tot.bindEq (nodeCount_nok hn) ?_
 refine Tot.dite (fun _=>Tot.ret ⟨by simp,fun x hx=>(by cases hx)⟩) (fun v1=> ?_);refine Tot.bindEq (nodeCount_nok hn) ?_
 refine Tot.make (by omega) (by omega) (by omega) ?_
 refine Tot.gin (by omega) (by rw[List.length_replicate];omega) (Tot.get (by omega) (by rw[List.length_replicate];omega) fun _ _ _=> ?_);refine Tot.bind (mark_tot hn (m:=v) (by rw[gset_len,List.length_replicate];omega) (low_set (fun k hk=> ?_) (by omega) (Int.le_refl _) _)) fun r hr=> ?_
 ·rw[List.getD];by_cases q:k<(nodesOf n).toNat
  ·rw[List.getElem?_replicate,if_pos q];rfl
  ·rw[List.getElem?_eq_none (by rw[List.length_replicate];omega)];rfl
 obtain⟨hr1,hr2⟩:=hr;refine Tot.lp (fun s=>(0<=s.1/\s.1<=(r.length:Int))/\(s.2.length:Int)<=s.1/\∀x∈s.2,0<=x/\x<=v) (fun s=>((r.length:Int) - s.1).toNat) ⟨⟨by simp only;omega,by simp only;omega⟩,by simp,fun x hx=>by simp at hx⟩ (fun s hs=> ?_);obtain⟨i,q⟩:=s;obtain⟨⟨i0,i1⟩,hq,hx⟩:=hs;simp only at i0 i1 hq hx;dsimp only;refine Tot.dite (fun h1=> ?_) (fun h1=> ?_)
 ·refine Tot.gin i0 h1 (Tot.get i0 h1 fun b hb _=> ?_);rw[wrap_ok (z:=i+1) (by omega)];refine Tot.ite (fun hbt=> ?_) (fun _=> ?_)
  ·refine Tot.app (by simp only[List.length_singleton];omega) (by omega) ?_
   refine Tot.next ⟨⟨⟨by simp only;omega,by simp only;omega⟩,by simp only[List.length_append,List.length_singleton];omega,fun x hx2=> ?_⟩,by simp only;omega⟩;rcases List.mem_append.1 hx2 with hx2 | hx2
   ·exact hx x hx2
   ·rw[List.mem_singleton.1 hx2];refine⟨i0,?_⟩;by_cases c:v<i
    ·have:=hr2 i.toNat (by omega);rw[hb,this]at hbt;cases hbt
    ·omega
  ·exact Tot.next ⟨⟨⟨by simp only;omega,by simp only;omega⟩,by simp only;omega,hx⟩,by simp only;omega⟩
 exact Tot.exit (Tot.ret ⟨by omega,fun x hx2=>⟨(hx x hx2).1,(hx x hx2).2,hn,by omega⟩⟩)
end Go.Pf
/-
  Own work. The device's routing nodes, plainly.
-/
namespace Go.Pf
open Go Go.Pu
def stpX (d:Int×(Int×(Int×Int)))(t dir len:Int):Int:=t % d.1+(if dir=0 then len else if dir=2 then -len else 0)
def stpY (d:Int×(Int×(Int×Int)))(t dir len:Int):Int:=t/d.1+(if dir=1 then len else if dir=3 then -len else 0)
def stp (d:Int×(Int×(Int×Int)))(t dir len:Int):Int:=
 if(0<=stpX d t dir len/\stpX d t dir len<=d.1 - 1)/\(0<=stpY d t dir len/\stpY d t dir len<=d.2.1 - 1)then stpY d t dir len*d.1+stpX d t dir len else -1
def nTile (d:Int×(Int×(Int×Int)))(n:Int):Int:=n/per d
def nPin (d:Int×(Int×(Int×Int)))(n:Int):Int:=n % per d
def wDir (d:Int×(Int×(Int×Int)))(n:Int):Int:=(nPin d n - 7)/d.2.2.1
def wTrk (d:Int×(Int×(Int×Int)))(n:Int):Int:=(nPin d n - 7) % d.2.2.1
def rnOkP (d:Int×(Int×(Int×Int)))(n:Int):Prop:=DOk d/\0<=n/\n<nodesN d/\
 (if nPin d n<5 then nPin d n<inP (tkp d (nTile d n))else if nPin d n<7 then nPin d n - 5<outP (tkp d (nTile d n))else 0<=stp d (nTile d n) (wDir d n) (1+wTrk d n % 2))
instance (d:Int×(Int×(Int×Int)))(n:Int):Decidable (rnOkP d n):=by unfold rnOkP;exact inferInstance
def isWireP (d:Int×(Int×(Int×Int)))(n:Int):Prop:=rnOkP d n/\7<=nPin d n
instance (d:Int×(Int×(Int×Int)))(n:Int):Decidable (isWireP d n):=by unfold isWireP;exact inferInstance
end Go.Pf
/-
  Own work. Paths by predecessors: the program's and the reference's, plainly.
-/
namespace Go.Pf
open Go Go.Pu
end Go.Pf
/-
  Own work. The law of paths, plainly: it says true.
-/
namespace Go.Pf
open Go Go.Pu
end Go.Pf
/-
  Own work. Wires: what they reach, and how many a route has; helpers of the laws.
-/
namespace Go.Pf
open Go Go.Pu
theorem gapp_ok {xs ys:List Int}(h:xs.length+ys.length<=10000000000):gapp 8 xs ys=some (xs++ys):=gapp_some (by omega) (by omega)
def reach (d:Int×(Int×(Int×Int)))(n:Int)(k:Nat):List Int:=(List.range k).map fun(j:Nat)=>stp d (nTile d n) (wDir d n) ((j:Int)+1)
def reaches (d:Int×(Int×(Int×Int)))(n:Int):List Int:=if isWireP d n then reach d n (1+wTrk d n % 2).toNat else []
end Go.Pf
/-
  Own work. The laws' helpers for lists: sizes, copies, comparisons.
-/
namespace Go.Pf
open Go Go.Pu
set_option linter.unusedVariables false
abbrev Dev:=Int×(Int×(Int×Int))
abbrev Pin:=Int×Int
abbrev Conn:=Int×(Pin×List Pin)
def CnOk (c:Conn):Prop:=c.2.2.length<=1048576
def CnsOk (xs:List Conn):Prop:=xs.length<=1048576/\∀x∈xs,CnOk x
end Go.Pf
/-
  Own work. Placements, plainly.
-/
namespace Go.Pf
open Go Go.Pu
theorem has_impl (xs:List Int)(x:Int)(h:xs.length<=4611686018427387904):impl_hasInt (xs,x)=some (decide (x∈xs)):=by
 unfold impl_hasInt;dsimp only;have e:=loop_all (f:=fun(v2:Int)=>
  let v3:Bool:=decide (v2<(xs.length:Int))
  bif v3 then(
   (gget 0 xs v2).bind fun v4=>
   let v5:Bool:=decide (v4=x)
   bif v5 then(
    Option.map Sum.inr (
     some true))else
   let v6:Int:=wrap .i64 (v2+1)
   some (.inl v6))else
  Option.map Sum.inr (
   some false)) xs.length (fun k=>(k:Int)) (fun k=>if hk:k<xs.length then decide (xs[k]≠x)else true) true false (fun k hk hok=>by
   rw[dif_pos hk]at hok;have hne:=of_decide_eq_true hok;dsimp only;rw[dt (by omega),cond_true,gget_nat hk];simp only[Option.bind_some];rw[df hne,cond_false,wrap_ok (by omega)];rfl) (fun k hk hok=>by
   rw[dif_pos hk]at hok;have he:=of_decide_eq_false hok;dsimp only;rw[dt (by omega),cond_true,gget_nat hk];simp only[Option.bind_some];rw[dt (by simpa using he),cond_true];rfl) (by
   dsimp only;rw[df (by omega),cond_false];rfl)
 rw[all_range_list xs (fun y=>decide (y≠x)) _ (fun k hk=>by rw[dif_pos hk])]at e;refine Eq.trans e ?_
 congr 1
 by_cases hm:x∈xs
 ·rw[dt hm,if_neg];intro ha;rw[List.all_eq_true]at ha;exact of_decide_eq_true (ha x hm) rfl
 ·rw[df hm,if_pos];rw[List.all_eq_true];intro y hy;exact decide_eq_true (fun e=>hm (e▸hy))
theorem has_spec (xs:List Int)(x:Int)(h:xs.length<=4611686018427387904):spec_l13Has (xs,x)=some (decide (x∈xs)):=has_impl xs x h
theorem gslice_pre {xs:List Int}{k:Nat}(h:k<=xs.length):gslice xs 0 (k:Int)=some (xs.take k):=by
 unfold gslice;rw[if_pos (by omega)];simp
end Go.Pf
/-
  Own work. Routes' use of nodes, plainly.
-/
namespace Go.Pf
open Go Go.Pu
set_option linter.unusedVariables false
abbrev Rt:=List Int×List Int
def RtOk (r:Rt):Prop:=r.1.length<=1048576/\r.2.length<=1048576
def RtB (b:Int)(r:Rt):Prop:=(r.1.length:Int)+(r.2.length:Int)<=b
def RtsOk (rs:List Rt):Prop:=rs.length<=1048576/\∀r∈rs,RtOk r
def RtsB (rs:List Rt):Prop:=rs.length<=1048576/\∀r∈rs,RtB (1048576 - rs.length) r
theorem RtsB.ok {rs:List Rt}(h:RtsB rs):RtsOk rs:=⟨h.1,fun r hr=>by
 have:=h.2 r hr;unfold RtB at this;exact⟨by omega,by omega⟩⟩
def nsAt (ns:List Int)(j:Nat):Int:=ns.getD j 0
def inN (N:Nat)(x:Int):Prop:=0<=x/\x<(N:Int)
instance (N:Nat)(x:Int):Decidable (inN N x):=by unfold inN;exact inferInstance
theorem take_at {ns:List Int}{j:Nat}(h:j<ns.length):ns.take (j+1)=ns.take j++[nsAt ns j]:=by
 rw[take_succ' ns j h];unfold nsAt;rw[List.getD,List.getElem?_eq_getElem h];rfl
theorem ns_at {ns:List Int}{j:Nat}(h:j<ns.length):ns[j]=nsAt ns j:=by unfold nsAt;rw[List.getD,List.getElem?_eq_getElem h];rfl
end Go.Pf
/-
  Own work. Networks of look-up tables: the laws' helpers (sizes, copies, comparisons, marks).
-/
namespace Go.Pf
open Go Go.Pu
set_option linter.unusedVariables false
abbrev Seq:=Int×(Int×List Int)
abbrev Lut:=List Int×Int
abbrev Net:=Int×(List Seq×(List Lut×List Int))
def SeqB (b:Int)(s:Seq):Prop:=(s.2.2.length:Int)<=b
def LutB (b:Int)(l:Lut):Prop:=(l.1.length:Int)<=b
def SeqsB (ss:List Seq):Prop:=ss.length<=1048576/\∀s∈ss,SeqB (1048576 - ss.length) s
def LutsB (ls:List Lut):Prop:=ls.length<=1048576/\∀l∈ls,LutB (1048576 - ls.length) l
def NetB (n:Net):Prop:=SeqsB n.2.1/\LutsB n.2.2.1/\n.2.2.2.length<=1048576
theorem SeqsB.at {ss:List Seq}(h:SeqsB ss){s:Seq}(hs:s∈ss):s.2.2.length<=1048576:=by
 have:=h.2 s hs;unfold SeqB at this;omega
theorem LutsB.at {ls:List Lut}(h:LutsB ls){l:Lut}(hl:l∈ls):l.1.length<=1048576:=by
 have:=h.2 l hl;unfold LutB at this;omega
end Go.Pf
/-
  Own work. Sorting and inserting, plainly: the reference's sort and the program's insertion into an ascending list.
-/
namespace Go.Pf
open Go Go.Pu
set_option linter.unusedVariables false
theorem joinO_inl {α β:Type}(a:α)(k:α->Option β):joinO (some (.inl a)) k=k a:=rfl
def fm (n:Nat)(g:Nat->List Int):List Int:=(List.range n).flatMap g
def Asc (xs:List Int):Prop:=xs.Pairwise (·<·)
theorem asc_ext {xs ys:List Int}(hx:Asc xs)(hy:Asc ys)(h:∀x,x∈xs↔x∈ys):xs=ys:=by
 induction xs generalizing ys with
 | nil=>
  cases ys with
  | nil=>rfl
  | cons b r=>exact absurd ((h b).2 (by simp)) (by simp)
 | cons a xs ih=>
  cases ys with
  | nil=>exact absurd ((h a).1 (by simp)) (by simp)
  | cons b ys=>
   unfold Asc at hx hy;rw[List.pairwise_cons]at hx hy;have e:a=b:=by
    rcases List.mem_cons.1 ((h a).1 (by simp))with e | e
    ·exact e
    rcases List.mem_cons.1 ((h b).2 (by simp))with e' | e'
    ·exact e'.symm
    have:=hy.1 a e;have:=hx.1 b e';omega
   subst e
   congr 1
   refine ih hx.2 hy.2 (fun x=>⟨fun q=> ?_,fun q=> ?_⟩)
   ·rcases List.mem_cons.1 ((h x).1 (List.mem_cons_of_mem _ q))with e | e
    ·have:=hx.1 x q;omega
    ·exact e
   ·rcases List.mem_cons.1 ((h x).2 (List.mem_cons_of_mem _ q))with e | e
    ·have:=hy.1 x q;omega
    ·exact e
def ins:List Int->Int->List Int
 | [],x=>[x]
 | a::r,x=>if a<x then a::ins r x else if a=x then a::r else x::a::r
theorem ins_cons (a:Int)(r:List Int)(x:Int):ins (a::r) x=if a<x then a::ins r x else if a=x then a::r else x::a::r:=rfl
theorem mem_ins {l:List Int}{x y:Int}:y∈ins l x↔y=x\/y∈l:=by
 induction l with
 | nil=>simp[ins]
 | cons a r ih=>
  unfold ins;split
  ·simp only[List.mem_cons,ih]
   constructor
   ·rintro(e | e | e)
    ·exact Or.inr (Or.inl e)
    ·exact Or.inl e
    ·exact Or.inr (Or.inr e)
   ·rintro(e | e | e)
    ·exact Or.inr (Or.inl e)
    ·exact Or.inl e
    ·exact Or.inr (Or.inr e)
  split
  ·rename_i e;subst e;simp
  ·simp
theorem asc_ins {l:List Int}{x:Int}(h:Asc l):Asc (ins l x):=by
 induction l with
 | nil=>simp[ins,Asc]
 | cons a r ih=>
  unfold Asc at*;have h' :=h;rw[List.pairwise_cons]at h;unfold ins;split
  ·rw[List.pairwise_cons];refine⟨fun y hy=> ?_,ih h.2⟩;rcases mem_ins.1 hy with e | e
   ·omega
   ·exact h.1 y e
  split
  ·exact h'
  ·rw[List.pairwise_cons];refine⟨fun y hy=> ?_,h'⟩;rcases List.mem_cons.1 hy with e | e
   ·omega
   ·have:=h.1 y e;omega
theorem ins_len (l:List Int)(x:Int):(ins l x).length<=l.length+1:=by
 induction l with
 | nil=>simp[ins]
 | cons a r ih=>
  unfold ins;split
  ·simp only[List.length_cons];omega
  split
  ·simp only[List.length_cons];omega
  ·simp only[List.length_cons];omega
def insL (l xs:List Int):List Int:=xs.foldl ins l
theorem insL_nil (l:List Int):insL l []=l:=rfl
theorem insL_app (l xs ys:List Int):insL l (xs++ys)=insL (insL l xs) ys:=by unfold insL;rw[List.foldl_append]
theorem insL_one (l:List Int)(x:Int):insL l [x]=ins l x:=rfl
theorem asc_insL {l xs:List Int}(h:Asc l):Asc (insL l xs):=by
 induction xs generalizing l with
 | nil=>exact h
 | cons a r ih=>exact ih (asc_ins h)
theorem mem_insL {l xs:List Int}{y:Int}:y∈insL l xs↔y∈l\/y∈xs:=by
 induction xs generalizing l with
 | nil=>simp[insL]
 | cons a r ih=>
  show y∈insL (ins l a) r↔_;rw[ih,mem_ins,List.mem_cons]
  constructor
  ·rintro((e | e) | e)
   ·exact Or.inr (Or.inl e)
   ·exact Or.inl e
   ·exact Or.inr (Or.inr e)
  ·rintro(e | e | e)
   ·exact Or.inl (Or.inr e)
   ·exact Or.inl (Or.inl e)
   ·exact Or.inr e
theorem insL_len (l xs:List Int):(insL l xs).length<=l.length+xs.length:=by
 induction xs generalizing l with
 | nil=>simp[insL]
 | cons a r ih=>
  have h1:=ih (ins l a);have h2:=ins_len l a;show(insL (ins l a) r).length<=_;simp only[List.length_cons];omega
theorem asc_nil:Asc []:=List.Pairwise.nil
theorem ins_split {l1 l2:List Int}{x:Int}(h:∀y∈l1,y<x):ins (l1++l2) x=l1++ins l2 x:=by
 induction l1 with
 | nil=>rfl
 | cons a r ih=>
  show ins (a::(r++l2)) x=a::(r++ins l2 x);rw[<-ih (fun y hy=>h y (List.mem_cons_of_mem _ hy))];have:=h a (by simp);rw[ins_cons,if_pos this]
theorem gslice_suf {xs:List Int}{k:Nat}(h:k<=xs.length):gslice xs (k:Int) (xs.length:Int)=some (xs.drop k):=by
 unfold gslice;rw[if_pos ⟨by omega,by omega,by omega⟩];simp
theorem insert_impl (l:List Int)(x:Int)(h:l.length<=1000000000):impl_insertInt (l,x)=some (ins l x):=by
 have key:∀m:Nat,m<=l.length->(∀k (hk:k<m) (q:k<l.length),l[k]<x)->(∀q:m<l.length,¬l[m]<x)->impl_insertInt (l,x)=some (ins l x):=by
  intro m hm h1 h2;have hlt:∀y∈l.take m,y<x:=by
   intro y hy;obtain⟨k,hk,rfl⟩:=List.getElem_of_mem hy;rw[List.length_take]at hk;rw[List.getElem_take];exact h1 k (by omega) (by omega)
  have e0:ins l x=l.take m++ins (l.drop m) x:=by
   rw[<-ins_split hlt,List.take_append_drop]
  unfold impl_insertInt;dsimp only;have hloop:Pu.loop (fun(v1:Int)=>
   let v2:Int:=((l).length:Int)
   let v3:Bool:=decide (v1<v2)
   bif v3 then(
    (gin (l).length v1).bind fun _=>
    (gget 0 l v1).bind fun v5=>
    let v6:Bool:=decide (v5<x)
    bif v6 then(
     let v7:Int:=wrap .i64 (v1+1)
     some (.inl v7))else
    Option.map Sum.inr (
     some (.inl v1)))else
   Option.map Sum.inr (
    some (.inl v1))) 0=some ((.inl (m:Int)):Int⊕List Int):=by
   refine loop_upto m (fun k=>(k:Int)) (fun k hk=> ?_) ?_
   ·dsimp only;rw[dt (by omega),cond_true,gin_nat (by omega),gget_nat (show k<l.length by omega)];simp only[Option.bind_some];rw[dt (h1 k hk (by omega)),cond_true,wrap_ok (by omega)];rfl
   ·dsimp only;by_cases q:m<l.length
    ·rw[dt (by omega),cond_true,gin_nat q,gget_nat q];simp only[Option.bind_some];rw[df (h2 q),cond_false];rfl
    ·rw[df (by omega),cond_false];rfl
  dsimp only at hloop;rw[hloop];rw[joinO_inl];by_cases q:m<l.length
  ·rw[dt (show(m:Int)<(l.length:Int)by omega),cond_true,gin_nat q,gget_nat q];simp only[Option.bind_some];have ed:l.drop m=l[m]::l.drop (m+1):=List.drop_eq_getElem_cons q;by_cases e:l[m]=x
   ·rw[dt e,cond_true,e0]
    conv=>lhs;rw[<-List.take_append_drop m l]
    rw[ed];unfold ins;rw[if_neg (h2 q),if_pos e]
   ·rw[df e,cond_false,gslice_pre (by omega)];simp only[Option.bind_some];rw[gapp_ok (by simp;omega)];simp only[Option.bind_some];rw[gapp_ok (by simp;omega),gslice_suf (by omega)];simp only[Option.bind_some];rw[gapp_ok (by simp;omega),e0,ed];unfold ins;rw[if_neg (h2 q),if_neg e];simp
  ·rw[df (show ¬(m:Int)<(l.length:Int)by omega),cond_false,gslice_pre (by omega)];simp only[Option.bind_some];rw[gapp_ok (by simp;omega)];simp only[Option.bind_some];rw[gapp_ok (by simp;omega),gslice_suf (by omega)];simp only[Option.bind_some];rw[gapp_ok (by simp;omega),e0];have:l.drop m=[]:=by rw[List.drop_eq_nil_iff];omega
   rw[this];simp[ins]
 have hw:∀(r:List Int),∃m:Nat,m<=r.length/\(∀k (hk:k<m) (q:k<r.length),r[k]<x)/\(∀q:m<r.length,¬r[m]<x):=by
  intro r
  induction r with
  | nil=>exact⟨0,by simp,fun k hk=>by omega,fun q=>by simp at q⟩
  | cons a r ih=>
   obtain⟨m,h1,h2,h3⟩:=ih;by_cases q:a<x
   ·refine⟨m+1,by simp only[List.length_cons];omega,fun k hk q' => ?_,fun q' => ?_⟩
    ·cases k with
     | zero=>exact q
     | succ k=>simp only[List.getElem_cons_succ];exact h2 k (by omega) (by simp only[List.length_cons]at q';omega)
    ·simp only[List.getElem_cons_succ];exact h3 (by simp only[List.length_cons]at q';omega)
   ·exact⟨0,by omega,fun k hk=>by omega,fun _=>q⟩
 obtain⟨m,h1,h2,h3⟩:=hw l;exact key m h1 h2 h3
theorem sort_spec (xs:List Int)(h:xs.length<=1000000000):∃o,spec_l27Sort xs=some o/\o.Perm xs/\o.Pairwise (·<=·):=by
 unfold spec_l27Sort;rw[gapp_ok (by simp;omega)];simp only[Option.bind_some,List.nil_append];obtain⟨o,h1,h2⟩:=loop_spec (f:=fun(v2:(Int×List Int))=>
  let v3:Int:=((v2.2).length:Int)
  let v4:Bool:=decide (v2.1<v3)
  bif v4 then(
   joinO (
    Pu.loop (fun(v5:(Int×List Int))=>
     let v6:Bool:=decide (0<v5.1)
     bif v6 then(
      (gin (v5.2).length v5.1).bind fun _=>
      (gget 0 v5.2 v5.1).bind fun v8=>
      let v9:Int:=wrap .i64 (v5.1 - 1)
      (gin (v5.2).length v9).bind fun _=>
      (gget 0 v5.2 v9).bind fun v11=>
      let v12:Bool:=decide (v8<v11)
      bif v12 then(
       (gin (v5.2).length v5.1).bind fun _=>
       (gget 0 v5.2 v5.1).bind fun v14=>
       let v15:Int:=wrap .i64 (v5.1 - 1)
       (gin (v5.2).length v15).bind fun _=>
       (gget 0 v5.2 v15).bind fun v17=>
       (gin (v5.2).length v5.1).bind fun _=>
       (gget 0 v5.2 v5.1).bind fun v19=>
       let v20:Int:=v17
       let v21:List Int:=gset v5.2 v5.1 v20
       let v22:Int:=wrap .i64 (v5.1 - 1)
       (gin (v21).length v22).bind fun _=>
       (gget 0 v21 v22).bind fun v24=>
       let v25:Int:=v14
       let v26:List Int:=gset v21 v22 v25
       let v27:Int:=wrap .i64 (v5.1 - 1)
       some (.inl (v27,v26)))else
      Option.map Sum.inr (
       some (.inl v5.2)))else
     Option.map Sum.inr (
      some (.inl v5.2))) v2) (fun(v5:List Int)=>
    let v6:Int:=wrap .i64 (v2.1+1)
    some (.inl (v6,v5))))else
  Option.map Sum.inr (
   some v2.2)) (fun s=>1<=s.1/\s.2.Perm xs/\(s.2.take s.1.toNat).Pairwise (·<=·)) (fun o=>o.Perm xs/\o.Pairwise (·<=·)) (fun s=>(xs.length - s.1).toNat) (fun s hs=>by
   obtain⟨i,acc⟩:=s;obtain⟨i0,hp,hs⟩:=hs;simp only at i0 hp hs;have hlen:=hp.length_eq;dsimp only;by_cases hi:i<(acc.length:Int)
   ·left
    rw[dt hi,cond_true];obtain⟨n,rfl⟩:∃n:Nat,i=(n:Int):=⟨i.toNat,by omega⟩;have hn:n<acc.length:=by omega
    rw[Int.toNat_natCast]at hs;obtain⟨o,g1,g2⟩:=loop_spec (f:=fun(v5:(Int×List Int))=>
     let v6:Bool:=decide (0<v5.1)
     bif v6 then(
      (gin (v5.2).length v5.1).bind fun _=>
      (gget 0 v5.2 v5.1).bind fun v8=>
      let v9:Int:=wrap .i64 (v5.1 - 1)
      (gin (v5.2).length v9).bind fun _=>
      (gget 0 v5.2 v9).bind fun v11=>
      let v12:Bool:=decide (v8<v11)
      bif v12 then(
       (gin (v5.2).length v5.1).bind fun _=>
       (gget 0 v5.2 v5.1).bind fun v14=>
       let v15:Int:=wrap .i64 (v5.1 - 1)
       (gin (v5.2).length v15).bind fun _=>
       (gget 0 v5.2 v15).bind fun v17=>
       (gin (v5.2).length v5.1).bind fun _=>
       (gget 0 v5.2 v5.1).bind fun v19=>
       let v20:Int:=v17
       let v21:List Int:=gset v5.2 v5.1 v20
       let v22:Int:=wrap .i64 (v5.1 - 1)
       (gin (v21).length v22).bind fun _=>
       (gget 0 v21 v22).bind fun v24=>
       let v25:Int:=v14
       let v26:List Int:=gset v21 v22 v25
       let v27:Int:=wrap .i64 (v5.1 - 1)
       some (.inl (v27,v26)))else
      Option.map Sum.inr (
       some ((.inl v5.2):List Int⊕((Int×List Int)⊕List Int))))else
     Option.map Sum.inr (
      some (.inl v5.2))) (fun s=>∃j:Nat,s.1=(j:Int)/\j<=n/\s.2=(acc.take n).take j++acc[n]::((acc.take n).drop j++acc.drop (n+1))/\∀y∈(acc.take n).drop j,acc[n]<y) (fun o=>∃r,o= .inl r/\r.Perm acc/\(r.take (n+1)).Pairwise (·<=·)) (fun s=>s.1.toNat) (fun s hs2=>by
      obtain⟨z,a⟩:=s;obtain⟨j,ej,hj,ea,hy⟩:=hs2;simp only at ej ea;subst ej ea;dsimp only;have ltn:(acc.take n).length=n:=by rw[List.length_take];omega
      generalize hP:acc.take n=P at*;generalize hR:acc.drop (n+1)=R at*;generalize hx:acc[n]=x at*;have hacc:acc=P++x::R:=by
       rw[<-hP,<-hR,<-hx,<-List.drop_eq_getElem_cons hn,List.take_append_drop]
      have ltj:(P.take j).length=j:=by rw[List.length_take];omega
      have done:(∀y∈P.take j,y<=x)->(P.take j++x::(P.drop j++R)).Perm acc/\((P.take j++x::(P.drop j++R)).take (n+1)).Pairwise (·<=·):=by
       intro hle
       constructor
       ·rw[hacc];have e1:(P.take j++x::(P.drop j++R)).Perm (x::(P.take j++(P.drop j++R))):=List.perm_middle;refine e1.trans ?_
        rw[<-List.append_assoc,List.take_append_drop];exact List.perm_middle.symm
       ·have e2:(P.take j++x::(P.drop j++R)).take (n+1)=P.take j++x::P.drop j:=by
         have:P.take j++x::(P.drop j++R)=(P.take j++x::P.drop j)++R:=by simp
         rw[this,List.take_left'];simp only[List.length_append,List.length_cons,ltj,List.length_drop,ltn];omega
        rw[e2,List.pairwise_append];have hs' :(P.take j++P.drop j).Pairwise (·<=·):=by rw[List.take_append_drop];exact hs
        rw[List.pairwise_append]at hs';refine⟨hs'.1,?_,?_⟩
        ·rw[List.pairwise_cons];exact⟨fun y q=>Int.le_of_lt (hy y q),hs'.2.1⟩
        ·intro y q z q2;rcases List.mem_cons.1 q2 with e | e
         ·rw[e];exact hle y q
         ·exact hs'.2.2 y q z e
      by_cases j0:j=0
      ·right
       subst j0;rw[df (by omega),cond_false];have:=done (by simp);exact⟨_,rfl,_,rfl,this.1,this.2⟩
      ·obtain⟨m,rfl⟩:∃m,j=m+1:=⟨j - 1,by omega⟩;have hm:m<P.length:=by omega
       have etk:P.take (m+1)=P.take m++[P[m]]:=take_succ' P m hm;have ltm:(P.take m).length=m:=by rw[List.length_take];omega
       have lall:(P.take (m+1)++x::(P.drop (m+1)++R)).length=acc.length:=by
        rw[hacc];simp only[List.length_append,List.length_cons,List.length_take,List.length_drop,ltn];omega
       have g1:(P.take (m+1)++x::(P.drop (m+1)++R))[m+1]? =some x:=by
        rw[List.getElem?_append_right (by omega),ltj];simp
       have g2:(P.take (m+1)++x::(P.drop (m+1)++R))[m]? =some P[m]:=by
        rw[List.getElem?_append_left (by omega),etk,List.getElem?_append_right (by omega),ltm];simp
       have hb1:m+1<(P.take (m+1)++x::(P.drop (m+1)++R)).length:=by omega
       have hb2:m<(P.take (m+1)++x::(P.drop (m+1)++R)).length:=by omega
       have e1:(P.take (m+1)++x::(P.drop (m+1)++R))[m+1]=x:=by
        rw[List.getElem?_eq_getElem hb1]at g1;exact Option.some.inj g1
       have e2:(P.take (m+1)++x::(P.drop (m+1)++R))[m]=P[m]:=by
        rw[List.getElem?_eq_getElem hb2]at g2;exact Option.some.inj g2
       have hw:wrap .i64 (((m+1:Nat):Int) - 1)=(m:Int):=by rw[wrap_ok (by omega)];omega
       rw[dt (by omega),cond_true,gin_nat hb1,gget_nat hb1,hw,gin_nat hb2,gget_nat hb2,e1,e2];simp only[Option.bind_some];by_cases q:x<P[m]
       ·left
        rw[dt q,cond_true,gset_nat,List.length_set,gin_nat hb2,gget_nat (by rw[List.length_set];exact hb2)];simp only[Option.bind_some];rw[gset_nat];refine⟨_,rfl,⟨m,rfl,by omega,?_,?_⟩,by simp only;omega⟩
        ·simp only;have edr:P.drop m=P[m]::P.drop (m+1):=List.drop_eq_getElem_cons hm;rw[edr,etk,List.append_assoc];rw[List.set_append_right _ _ (by omega),List.set_append_right _ _ (by omega),ltm];have:m+1 - m=1:=by omega
         rw[this,Nat.sub_self];simp;rw[edr];rfl
        ·have edr:P.drop m=P[m]::P.drop (m+1):=List.drop_eq_getElem_cons hm;rw[edr];intro y qy;rcases List.mem_cons.1 qy with e | e
         ·rw[e];exact q
         ·exact hy y e
       ·right
        rw[df q,cond_false];have:=done (by
         intro y qy;rw[etk]at qy;have hs' :(P.take (m+1)).Pairwise (·<=·):=hs.sublist (List.take_sublist _ _);rw[etk,List.pairwise_append]at hs';rcases List.mem_append.1 qy with e | e
         ·have:=hs'.2.2 y e P[m] (by simp);omega
         ·have:=List.mem_singleton.1 e;omega)
        exact⟨_,rfl,_,rfl,this.1,this.2⟩) ((n:Int),acc) ⟨n,rfl,Nat.le_refl _,by
         simp only;have ltn:(acc.take n).length=n:=by rw[List.length_take];omega
         have d0:(acc.take n).drop n=[]:=by rw[List.drop_eq_nil_iff];omega
         have d1:(acc.take n).take n=acc.take n:=List.take_of_length_le (by omega);rw[d0,d1,List.nil_append,<-List.drop_eq_getElem_cons hn,List.take_append_drop],by
         have d0:(acc.take n).drop n=[]:=by rw[List.drop_eq_nil_iff,List.length_take];omega
         rw[d0];simp⟩
    obtain⟨r,rfl,g3,g4⟩:=g2;dsimp only at g1;rw[g1];rw[joinO_inl,wrap_ok (by omega)];have e3:((n:Int)+1).toNat=n+1:=by omega
    refine⟨_,rfl,⟨by simp only;omega,g3.trans hp,by simp only[e3];exact g4⟩,by simp only;omega⟩
   ·right
    rw[df hi,cond_false];refine⟨acc,rfl,hp,?_⟩;rw[List.take_of_length_le (by omega)]at hs;exact hs) (1,xs) ⟨by simp,List.Perm.refl _,by
     simp only;cases xs with
     | nil=>simp
     | cons a r=>simp⟩
 exact⟨o,h1,h2⟩
end Go.Pf
/-
  Own work. Cuts by a line, plainly.
-/
namespace Go.Pf
open Go Go.Pu
set_option linter.unusedVariables false
def side (d:Int×(Int×(Int×Int)))(row:Bool)(c t:Int):Bool:=bif row then decide (t/d.1<=c)else decide (t % d.1<=c)
end Go.Pf
/-
  Own work. A connection's nodes, plainly.
-/
namespace Go.Pf
open Go Go.Pu
set_option linter.unusedVariables false
end Go.Pf
/-
  Own work. The nodes that lead into a node: the program's and the reference's, plainly.
-/
namespace Go.Pf
open Go Go.Pu
set_option linter.unusedVariables false
def opp (dir:Int):Int:=(dir+2) % 4
def wn (d:Dev)(s dir trk:Int):Int:=if 0<=s/\0<=stp d s dir (1+trk % 2)then s*per d+7+dir*d.2.2.1+trk else -1
def skipP (d:Dev)(p wd wt dir trk:Int):Prop:=(7<=p/\(dir=opp wd\/(trk≠wt/\trk≠(wt+1) % d.2.2.1)))\/(p<7/\1<d.2.2.1/\(trk+p) % 2=1)
instance (d:Dev)(p wd wt dir trk:Int):Decidable (skipP d p wd wt dir trk):=by unfold skipP;exact inferInstance
def pos1 (v:Int):List Int:=if 0<=v then [v]else []
def oneP (d:Dev)(t p dir trk:Int)(j:Nat):List Int:=if 7<=p/\(j:Int)+1<1+trk % 2 then []else pos1 (wn d (stp d t (opp dir) ((j:Int)+1)) dir trk)
def candP (d:Dev)(t p wd wt:Int)(dir trk:Nat):List Int:=if skipP d p wd wt dir trk then []else fm (1+(trk:Int) % 2).toNat (oneP d t p dir trk)
def dirP (d:Dev)(t p wd wt:Int)(dir:Nat):List Int:=fm d.2.2.1.toNat (candP d t p wd wt dir)
def rawP (d:Dev)(t p wd wt:Int):List Int:=fm 4 (dirP d t p wd wt)
def outsP (d:Dev)(t:Int):List Int:=if 1<outP (tk d t)then [t*per d+5,t*per d+6]else [t*per d+5]
def s0P (d:Dev)(n:Int):List Int:=if 7<=nPin d n then outsP d (nTile d n)else []
def rawN (d:Dev)(n:Int):List Int:=s0P d n++rawP d (nTile d n) (nPin d n) (wDir d n) (wTrk d n)
def srcsP (d:Dev)(n:Int):List Int:=if rnOkP d n/\¬(nPin d n=5\/nPin d n=6)then insL [] (rawN d n)else []
end Go.Pf
/-
  Own work. Costs, paths' costs, routes, plainly.
-/
namespace Go.Pf
open Go Go.Pu
set_option linter.unusedVariables false
def costsP (d:Dev)(cs:List Int):Prop:=DOk d/\(cs.length:Int)=nodesN d/\∀c∈cs,1<=c/\c<=100000
instance (d:Dev)(cs:List Int):Decidable (costsP d cs):=by unfold costsP;exact inferInstance
def pAt (xs:List Int)(i:Int):Int:=xs.getD i.toNat 0
def roOk (d:Dev)(src:Int)(snks ns ps:List Int)(k:Nat):Prop:=
 rnOkP d (nsAt ns k)/\nsAt ns k∉ns.take k/\(if k=0 then nsAt ns 0=src/\nsAt ps 0=0/\(nPin d (nsAt ns 0)=5\/nPin d (nsAt ns 0)=6)
  else(0<=nsAt ps k/\nsAt ps k<(k:Int))/\pAt ns (nsAt ps k)∈srcsP d (nsAt ns k)/\(nPin d (nsAt ns k)<5->nsAt ns k∈snks))
instance (d:Dev)(src:Int)(snks ns ps:List Int)(k:Nat):Decidable (roOk d src snks ns ps k):=by unfold roOk;exact inferInstance
theorem nsAt_get {ns:List Int}{k:Nat}(h:k<ns.length):gget 0 ns (k:Int)=some (nsAt ns k):=by rw[gget_nat h,ns_at h]
end Go.Pf
/-
  Own work. Cheapest distances in a graph, plainly: what they are, and that they are unique; loops with results that are only described; the program's queue.
-/
namespace Go.Pf
open Go Go.Pu
set_option linter.unusedVariables false
def psum (p:Int->Nat):List Int->Nat
 | []=>0
 | a::r=>p a+psum p r
def cnt (D:List Int):Nat:=psum (fun x=>if 0<=x then 1 else 0) D
end Go.Pf
/-
  Own work. Networks of look-up tables: when they are well formed; how often their nodes are used.
-/
namespace Go.Pf
open Go Go.Pu
set_option linter.unusedVariables false
def belowP (xs:List Int)(m:Int):Bool:=xs.all fun x=>decide (0<=x/\x<m)
theorem belowP_mem {xs:List Int}{m:Int}(h:belowP xs m=true):∀x∈xs,0<=x/\x<m:=fun x hx=>of_decide_eq_true (List.all_eq_true.1 h x hx)
theorem below_eq (xs:List Int)(m:Int):belowP xs m=if(List.range xs.length).all (fun k=>if hk:k<xs.length then decide (0<=xs[k]/\xs[k]<m)else true)=true then true else false:=by
 rw[all_range_list xs (fun x=>decide (0<=x/\x<m)) _ (fun k hk=>by rw[dif_pos hk])];show belowP xs m=if belowP xs m=true then true else false
 cases belowP xs m<;>rfl
theorem below_spec (xs:List Int)(m:Int)(hl:xs.length<=1048576):spec_l20Below (xs,m)=some (belowP xs m):=by
 unfold spec_l20Below;rw[below_eq];refine loop_all xs.length (fun k=>(k:Int)) _ false true (fun k hk hok=> ?_) (fun k hk hok=> ?_) ?_
 ·rw[dif_pos hk]at hok;have hok:=of_decide_eq_true hok
  try dsimp only
  rw[dt (show(k:Int)<(xs.length:Int)by omega),cond_true,gget_nat hk];simp only[Option.bind_some];rw[df (show ¬xs[k]<0 by omega),cond_false,df (show ¬m<=xs[k]by omega),cond_false,wrap_ok (by omega)];rfl
 ·rw[dif_pos hk]at hok;have hok:=of_decide_eq_false hok
  try dsimp only
  rw[dt (show(k:Int)<(xs.length:Int)by omega),cond_true,gget_nat hk];simp only[Option.bind_some];by_cases g:xs[k]<0
  ·rw[dt g];rfl
  ·rw[df g,cond_false,dt (show m<=xs[k]by omega)];rfl
 ·try dsimp only
  rw[df (by omega),cond_false];rfl
theorem below_impl (xs:List Int)(m:Int)(hl:xs.length<=1048576)(hm: -1000<=m/\m<=10000000):impl_nodesBelow (xs,m)=some (belowP xs m):=by
 unfold impl_nodesBelow;rw[below_eq]
 try dsimp only
 refine loop_all xs.length (fun k=>(k:Int)) _ false true (fun k hk hok=> ?_) (fun k hk hok=> ?_) ?_
 ·rw[dif_pos hk]at hok;have hok:=of_decide_eq_true hok
  try dsimp only
  rw[dt (show(k:Int)<(xs.length:Int)by omega),cond_true,gget_nat hk];simp only[Option.bind_some];rw[wrap_ok (z:=m - 1) (by omega),inR_impl];simp only[Option.bind_some];rw[dt (by omega),Bool.not_true,cond_false,wrap_ok (by omega)];rfl
 ·rw[dif_pos hk]at hok;have hok:=of_decide_eq_false hok
  try dsimp only
  rw[dt (show(k:Int)<(xs.length:Int)by omega),cond_true,gget_nat hk];simp only[Option.bind_some];rw[wrap_ok (z:=m - 1) (by omega),inR_impl];simp only[Option.bind_some];rw[df (by omega)];rfl
 ·try dsimp only
  rw[df (by omega),cond_false];rfl
def lnOk (n:Net):Prop:=(0<=n.1/\n.1<=20)/\n.2.1.length<=12/\n.2.2.1.length<=400/\n.2.2.2.length<=16
instance (n:Net):Decidable (lnOk n):=by unfold lnOk;exact inferInstance
def fstP (n:Net):Int:=1+n.1+n.2.1.length
def lnV (n:Net):Int:=fstP n+n.2.2.1.length
def lnP (n:Net):Int:=if lnOk n then lnV n else 0
theorem lnV_le {n:Net}(h:lnOk n):(1<=fstP n/\fstP n<=33)/\1<=lnV n/\lnV n<=433:=by
 obtain⟨h1,h2,h3,h4⟩:=h;unfold lnV fstP;omega
theorem ln_spec (n:Net):spec_LutNodes n=some (lnP n):=by
 unfold spec_LutNodes lnP
 try dsimp only
 rw[inR_spec];simp only[Option.bind_some];by_cases h1:0<=n.1/\n.1<=20
 rotate_left
 ·rw[df h1,if_neg (fun e=>h1 e.1)];rfl
 rw[dt h1,Bool.not_true,cond_false];by_cases h2:12<(n.2.1.length:Int)
 ·rw[dt h2,if_neg (fun e=>by have:=e.2.1;omega)];rfl
 rw[df h2,cond_false];by_cases h3:400<(n.2.2.1.length:Int)
 ·rw[dt h3,if_neg (fun e=>by have:=e.2.2.1;omega)];rfl
 rw[df h3,cond_false];by_cases h4:16<(n.2.2.2.length:Int)
 ·rw[dt h4,if_neg (fun e=>by have:=e.2.2.2;omega)];rfl
 rw[df h4,cond_false,if_pos ⟨h1,by omega,by omega,by omega⟩,wrap_ok (z:=1+n.1) (by omega),wrap_ok (z:=1+n.1+(n.2.1.length:Int)) (by omega),wrap_ok (by omega)];rfl
theorem lnv_impl {n:Net}(h:lnOk n):impl_lutNodes n=some (lnV n):=by
 obtain⟨h1,h2,h3,h4⟩:=h;unfold impl_lutNodes
 try dsimp only
 rw[wrap_ok (z:=1+n.1) (by omega),wrap_ok (z:=1+n.1+(n.2.1.length:Int)) (by omega),wrap_ok (by omega)];rfl
theorem ln_impl (n:Net):impl_LutNodes n=some (lnP n):=by
 unfold impl_LutNodes lnP
 try dsimp only
 rw[inR_impl];simp only[Option.bind_some];by_cases h1:0<=n.1/\n.1<=20
 rotate_left
 ·rw[df h1,if_neg (fun e=>h1 e.1)];rfl
 rw[dt h1,Bool.not_true,cond_false];by_cases h2:12<(n.2.1.length:Int)
 ·rw[dt h2,if_neg (fun e=>by have:=e.2.1;omega)];rfl
 rw[df h2,cond_false];by_cases h3:400<(n.2.2.1.length:Int)
 ·rw[dt h3,if_neg (fun e=>by have:=e.2.2.1;omega)];rfl
 rw[df h3,cond_false];by_cases h4:16<(n.2.2.2.length:Int)
 ·rw[dt h4,if_neg (fun e=>by have:=e.2.2.2;omega)];rfl
 have hl:lnOk n:=⟨h1,by omega,by omega,by omega⟩;rw[df h4,cond_false,if_pos hl,lnv_impl hl];rfl
theorem fst_spec {n:Net}(h:lnOk n):spec_l20First n=some (fstP n):=by
 obtain⟨h1,h2,h3,h4⟩:=h;unfold spec_l20First
 try dsimp only
 rw[wrap_ok (z:=1+n.1) (by omega),wrap_ok (by omega)];rfl
theorem fst_impl {n:Net}(h:lnOk n):impl_firstLut n=some (fstP n):=fst_spec h
def fullP (k:Int):Int:=if k=0 then 1 else if k=1 then 3 else if k=2 then 15 else if k=3 then 255 else 65535
def tblP (k t:Int):Prop:=(0<=k/\k<=4)/\0<=t/\t<=fullP k
instance (k t:Int):Decidable (tblP k t):=by unfold tblP;exact inferInstance
theorem full_cases {k:Int}(h:0<=k/\k<=4):spec_l02Full k=some (fullP k):=by
 have:k=0\/k=1\/k=2\/k=3\/k=4:=by omega
 rcases this with rfl | rfl | rfl | rfl | rfl<;>rfl
theorem tbl_spec (k t:Int):spec_TableOk (k,t)=some (decide (tblP k t)):=by
 unfold spec_TableOk;rw[inR_spec];simp only[Option.bind_some];by_cases h:0<=k/\k<=4
 rotate_left
 ·rw[df h,df (show ¬tblP k t from fun e=>h e.1)];rfl
 rw[dt h,cond_true];by_cases h2:0<=t
 rotate_left
 ·rw[df h2,df (show ¬tblP k t from fun e=>h2 e.2.1)];rfl
 rw[dt h2,cond_true,full_cases h];simp only[Option.bind_some]
 congr 1
 rw[decide_eq_decide];exact⟨fun e=>⟨h,h2,e⟩,fun e=>e.2.2⟩
theorem tbl_impl (k t:Int):impl_TableOk (k,t)=some (decide (tblP k t)):=by
 unfold impl_TableOk;rw[inR_impl];simp only[Option.bind_some];by_cases h:0<=k/\k<=4
 rotate_left
 ·rw[df h,df (show ¬tblP k t from fun e=>h e.1)];rfl
 rw[dt h,cond_true];have hf:(gshift true .u64 1 (wrap .u64 k)).bind (fun v3=>(gshift true .i64 1 v3).bind fun v4=>some (wrap .i64 (v4 - 1)))=some (fullP k):=by
  have:k=0\/k=1\/k=2\/k=3\/k=4:=by omega
  rcases this with rfl | rfl | rfl | rfl | rfl<;>rfl
 have hf2:∀g:Int->Option Bool,(gshift true .u64 1 (wrap .u64 k)).bind (fun v3=>(gshift true .i64 1 v3).bind fun v4=>g (wrap .i64 (v4 - 1)))=((gshift true .u64 1 (wrap .u64 k)).bind (fun v3=>(gshift true .i64 1 v3).bind fun v4=>some (wrap .i64 (v4 - 1)))).bind g:=by
  intro g;cases gshift true .u64 1 (wrap .u64 k)with
  | none=>rfl
  | some v=>
   simp only[Option.bind_some];cases gshift true .i64 1 v<;>rfl
 have:=hf2 (fun v5=>(impl_inRange (t,(0,v5))).bind fun v6=>some v6)
 try dsimp only
 rw[this,hf];simp only[Option.bind_some];rw[inR_impl];simp only[Option.bind_some]
 congr 1
 rw[decide_eq_decide];exact⟨fun e=>⟨h,e⟩,fun e=>e.2⟩
def seqP (s:Seq):Prop:=(s.1=0/\(0<=s.2.1/\s.2.1<=1)/\s.2.2.length=1)\/(s.1=1/\(0<=s.2.1/\s.2.1<=31)/\s.2.2.length=4)
instance (s:Seq):Decidable (seqP s):=by unfold seqP;exact inferInstance
theorem seq_impl (s:Seq):impl_seqOk s=some (decide (seqP s)):=by
 unfold impl_seqOk
 try dsimp only
 rw[inR_impl,inR_impl];simp only[Option.bind_some];by_cases h0:s.1=0
 ·rw[dt h0,cond_true];by_cases h1:0<=s.2.1/\s.2.1<=1
  ·rw[dt h1,cond_true]
   congr 1
   rw[decide_eq_decide];exact⟨fun e=>Or.inl ⟨h0,h1,by omega⟩,fun e=>by rcases e with e | e<;>omega⟩
  ·rw[df h1,df (show ¬seqP s from fun e=>by rcases e with e | e<;>omega)];rfl
 ·rw[df h0,cond_false];by_cases h1:s.1=1
  ·rw[dt h1,cond_true];by_cases h2:0<=s.2.1/\s.2.1<=31
   ·rw[dt h2,cond_true]
    congr 1
    rw[decide_eq_decide];exact⟨fun e=>Or.inr ⟨h1,h2,by omega⟩,fun e=>by rcases e with e | e<;>omega⟩
   ·rw[df h2,df (show ¬seqP s from fun e=>by rcases e with e | e<;>omega)];rfl
  ·rw[df h1,df (show ¬seqP s from fun e=>by rcases e with e | e<;>omega)];rfl
def sqAt (ss:List Seq)(k:Nat):Seq:=ss.getD k (0,(0,[]))
def ltAt (ls:List Lut)(k:Nat):Lut:=ls.getD k ([],0)
theorem sq_get {ss:List Seq}{k:Nat}(h:k<ss.length):gget ((0,(0,[])):Seq) ss (k:Int)=some (sqAt ss k)/\sqAt ss k∈ss:=by
 unfold sqAt;rw[gget_nat h,List.getD,List.getElem?_eq_getElem h];exact⟨rfl,List.getElem_mem h⟩
theorem lt_get {ls:List Lut}{k:Nat}(h:k<ls.length):gget (([],0):Lut) ls (k:Int)=some (ltAt ls k)/\ltAt ls k∈ls:=by
 unfold ltAt;rw[gget_nat h,List.getD,List.getElem?_eq_getElem h];exact⟨rfl,List.getElem_mem h⟩
def sqOk (n:Net)(k:Nat):Prop:=seqP (sqAt n.2.1 k)/\belowP (sqAt n.2.1 k).2.2 (lnV n)=true
def ltOk (n:Net)(k:Nat):Prop:=tblP ((ltAt n.2.2.1 k).1.length:Int) (ltAt n.2.2.1 k).2/\belowP (ltAt n.2.2.1 k).1 (fstP n+k)=true
instance (n:Net)(k:Nat):Decidable (sqOk n k):=by unfold sqOk;exact inferInstance
instance (n:Net)(k:Nat):Decidable (ltOk n k):=by unfold ltOk;exact inferInstance
def netP (n:Net):Bool:=
 if lnOk n/\belowP n.2.2.2 (lnV n)=true then(if(List.range n.2.1.length).all (fun k=>decide (sqOk n k))=true then(if(List.range n.2.2.1.length).all (fun k=>decide (ltOk n k))=true then true else false)else false)else false
theorem netP_all {n:Net}(h:netP n=true):lnOk n/\belowP n.2.2.2 (lnV n)=true/\(∀k,k<n.2.1.length->sqOk n k)/\(∀k,k<n.2.2.1.length->ltOk n k):=by
 unfold netP at h;split at h
 rotate_left
 ·simp at h
 rename_i h1;split at h
 rotate_left
 ·simp at h
 rename_i h2;split at h
 rotate_left
 ·simp at h
 rename_i h3;exact⟨h1.1,h1.2,fun k hk=>of_decide_eq_true (List.all_eq_true.1 h2 k (List.mem_range.2 hk)),fun k hk=>of_decide_eq_true (List.all_eq_true.1 h3 k (List.mem_range.2 hk))⟩
theorem net_spec (n:Net)(h:NetB n):spec_LutNetOk n=some (netP n):=by
 unfold spec_LutNetOk netP;rw[ln_spec];simp only[Option.bind_some];by_cases hl:lnOk n
 rotate_left
 ·have e:lnP n=0:=by unfold lnP;rw[if_neg hl]
  rw[dt e,if_neg (fun e=>hl e.1)];rfl
 have e:lnP n=lnV n:=by unfold lnP;rw[if_pos hl]
 have hv:=lnV_le hl;rw[e,df (show ¬lnV n=0 by omega),cond_false,below_spec _ _ h.2.2];simp only[Option.bind_some];cases ho:belowP n.2.2.2 (lnV n)with
 | false=>rw[if_neg (by simp)];rfl
 | true=>
 rw[if_pos ⟨hl,rfl⟩,Bool.not_true,cond_false];have hl2:=hl.2.1;have hl3:=hl.2.2.1;refine loop_all n.2.1.length (fun k=>(k:Int)) _ false _ (fun k hk hok=> ?_) (fun k hk hok=> ?_) ?_
 ·have hok:=of_decide_eq_true hok;obtain⟨g1,g2⟩:=sq_get hk;have gl:=h.1.at g2;obtain⟨o1,o2⟩:=hok
  try dsimp only
  rw[dt (show(k:Int)<(n.2.1.length:Int)by omega),cond_true,g1];simp only[Option.bind_some];rw[below_spec _ _ gl,inR_spec,inR_spec,o2,wrap_ok (by omega)];simp only[Option.bind_some];generalize sqAt n.2.1 k=s at*;rcases o1 with⟨p1,p2,p3⟩ | ⟨p1,p2,p3⟩
  ·rw[dt p1,cond_true,dt p2,cond_true,dt (show(s.2.2.length:Int)=1 by omega)];rfl
  ·rw[df (show ¬s.1=0 by omega),cond_false,dt p1,cond_true,dt p2,cond_true,dt (show(s.2.2.length:Int)=4 by omega)];rfl
 ·have hok:=of_decide_eq_false hok;obtain⟨g1,g2⟩:=sq_get hk;have gl:=h.1.at g2;unfold sqOk at hok
  try dsimp only
  rw[dt (show(k:Int)<(n.2.1.length:Int)by omega),cond_true,g1];simp only[Option.bind_some];rw[below_spec _ _ gl,inR_spec,inR_spec,wrap_ok (by omega)];simp only[Option.bind_some];generalize sqAt n.2.1 k=s at*;by_cases h0:s.1=0
  ·rw[dt h0,cond_true,df (show ¬s.1=1 by omega)];by_cases h1:0<=s.2.1/\s.2.1<=1
   ·rw[dt h1,cond_true];by_cases h2:(s.2.2.length:Int)=1
    ·rw[dt h2,cond_true];cases hb:belowP s.2.2 (lnV n)with
     | false=>rfl
     | true=>exact absurd ⟨Or.inl ⟨h0,h1,by omega⟩,hb⟩ hok
    ·rw[df h2];rfl
   ·rw[df h1];rfl
  ·rw[df h0,cond_false];by_cases h1:s.1=1
   ·rw[dt h1,cond_true];by_cases h2:0<=s.2.1/\s.2.1<=31
    ·rw[dt h2,cond_true];by_cases h3:(s.2.2.length:Int)=4
     ·rw[dt h3];cases hb:belowP s.2.2 (lnV n)with
      | false=>rfl
      | true=>exact absurd ⟨Or.inr ⟨h1,h2,by omega⟩,hb⟩ hok
     ·rw[df h3];rfl
    ·rw[df h2];rfl
   ·rw[df h1];rfl
 ·try dsimp only
  rw[df (by omega),cond_false];refine(Option.map_eq_some_iff).2 ⟨_,?_,rfl⟩;refine loop_all n.2.2.1.length (fun k=>(k:Int)) _ false true (fun k hk hok=> ?_) (fun k hk hok=> ?_) ?_
  ·have hok:=of_decide_eq_true hok;obtain⟨g1,g2⟩:=lt_get hk;have gl:=h.2.1.at g2;obtain⟨o1,o2⟩:=hok
   try dsimp only
   rw[dt (show(k:Int)<(n.2.2.1.length:Int)by omega),cond_true,g1];simp only[Option.bind_some];rw[tbl_spec,fst_spec hl];simp only[Option.bind_some];rw[dt o1,Bool.not_true,cond_false,wrap_ok (z:=fstP n+(k:Int)) (by omega),below_spec _ _ gl,o2,wrap_ok (by omega)];rfl
  ·have hok:=of_decide_eq_false hok;obtain⟨g1,g2⟩:=lt_get hk;have gl:=h.2.1.at g2;unfold ltOk at hok
   try dsimp only
   rw[dt (show(k:Int)<(n.2.2.1.length:Int)by omega),cond_true,g1];simp only[Option.bind_some];rw[tbl_spec,fst_spec hl];simp only[Option.bind_some];by_cases o1:tblP ((ltAt n.2.2.1 k).1.length:Int) (ltAt n.2.2.1 k).2
   rotate_left
   ·rw[df o1];rfl
   rw[dt o1,Bool.not_true,cond_false,wrap_ok (z:=fstP n+(k:Int)) (by omega),below_spec _ _ gl];simp only[Option.bind_some];cases hb:belowP (ltAt n.2.2.1 k).1 (fstP n+k)with
   | false=>rfl
   | true=>exact absurd ⟨o1,hb⟩ hok
  ·try dsimp only
   rw[df (by omega),cond_false];rfl
theorem net_impl (n:Net)(h:NetB n):impl_LutNetOk n=some (netP n):=by
 unfold impl_LutNetOk netP;rw[ln_impl];simp only[Option.bind_some];by_cases hl:lnOk n
 rotate_left
 ·have e:lnP n=0:=by unfold lnP;rw[if_neg hl]
  rw[dt e,if_neg (fun e=>hl e.1)];rfl
 have e:lnP n=lnV n:=by unfold lnP;rw[if_pos hl]
 have hv:=lnV_le hl;rw[e,df (show ¬lnV n=0 by omega),cond_false,below_impl _ _ h.2.2 (by omega)];simp only[Option.bind_some];cases ho:belowP n.2.2.2 (lnV n)with
 | false=>rw[if_neg (by simp)];rfl
 | true=>
 rw[if_pos ⟨hl,rfl⟩,Bool.not_true,cond_false];have hl2:=hl.2.1;have hl3:=hl.2.2.1;refine loop_all n.2.1.length (fun k=>(k:Int)) _ false _ (fun k hk hok=> ?_) (fun k hk hok=> ?_) ?_
 ·have hok:=of_decide_eq_true hok;obtain⟨g1,g2⟩:=sq_get hk;have gl:=h.1.at g2;obtain⟨o1,o2⟩:=hok
  try dsimp only
  rw[dt (show(k:Int)<(n.2.1.length:Int)by omega),cond_true,g1];simp only[Option.bind_some];rw[seq_impl,dt o1,below_impl _ _ gl (by omega),o2,wrap_ok (by omega)];rfl
 ·have hok:=of_decide_eq_false hok;obtain⟨g1,g2⟩:=sq_get hk;have gl:=h.1.at g2;unfold sqOk at hok
  try dsimp only
  rw[dt (show(k:Int)<(n.2.1.length:Int)by omega),cond_true,g1];simp only[Option.bind_some];rw[seq_impl,below_impl _ _ gl (by omega)];simp only[Option.bind_some];by_cases o1:seqP (sqAt n.2.1 k)
  ·rw[dt o1,Bool.not_true,cond_false];cases hb:belowP (sqAt n.2.1 k).2.2 (lnV n)with
   | false=>rfl
   | true=>exact absurd ⟨o1,hb⟩ hok
  ·rw[df o1];rfl
 ·try dsimp only
  rw[df (by omega),cond_false];refine(Option.map_eq_some_iff).2 ⟨_,?_,rfl⟩;refine loop_all n.2.2.1.length (fun k=>(k:Int)) _ false true (fun k hk hok=> ?_) (fun k hk hok=> ?_) ?_
  ·have hok:=of_decide_eq_true hok;obtain⟨g1,g2⟩:=lt_get hk;have gl:=h.2.1.at g2;obtain⟨o1,o2⟩:=hok;have o11:=o1.1
   try dsimp only
   rw[dt (show(k:Int)<(n.2.2.1.length:Int)by omega),cond_true,g1];simp only[Option.bind_some];rw[df (show ¬4<((ltAt n.2.2.1 k).1.length:Int)by omega),cond_false,fst_impl hl];simp only[Option.bind_some];rw[wrap_ok (z:=fstP n+(k:Int)) (by omega),below_impl _ _ gl (by omega),o2,tbl_impl,dt o1,wrap_ok (by omega)];rfl
  ·have hok:=of_decide_eq_false hok;obtain⟨g1,g2⟩:=lt_get hk;have gl:=h.2.1.at g2;unfold ltOk at hok
   try dsimp only
   rw[dt (show(k:Int)<(n.2.2.1.length:Int)by omega),cond_true,g1];simp only[Option.bind_some];by_cases o0:4<((ltAt n.2.2.1 k).1.length:Int)
   ·rw[dt o0];rfl
   rw[df o0,cond_false,fst_impl hl];simp only[Option.bind_some];rw[wrap_ok (z:=fstP n+(k:Int)) (by omega),below_impl _ _ gl (by omega),tbl_impl];simp only[Option.bind_some];cases hb:belowP (ltAt n.2.2.1 k).1 (fstP n+k)with
   | false=>rfl
   | true=>
    rw[Bool.not_true,cond_false,df (show ¬tblP ((ltAt n.2.2.1 k).1.length:Int) (ltAt n.2.2.1 k).2 from fun e=>hok ⟨e,hb⟩)];rfl
  ·try dsimp only
   rw[df (by omega),cond_false];rfl
def inc1 (c:List Int)(x:Int):List Int:=gset c x (wrap .i64 (nsAt c x.toNat+1))
def incL (c xs:List Int):List Int:=xs.foldl inc1 c
theorem inc1_len (c:List Int)(x:Int):(inc1 c x).length=c.length:=by unfold inc1 gset;rw[List.length_set]
theorem incL_len (c xs:List Int):(incL c xs).length=c.length:=by
 induction xs generalizing c with
 | nil=>rfl
 | cons a r ih=>show(incL (inc1 c a) r).length=_;rw[ih,inc1_len]
theorem incL_take (c xs:List Int)(k:Nat)(h:k<xs.length):incL c (xs.take (k+1))=inc1 (incL c (xs.take k)) (nsAt xs k):=by
 unfold incL;rw[take_at h,List.foldl_append];rfl
def incA (c:List Int)(xss:Nat->List Int):Nat->List Int
 | 0=>c
 | k+1=>incL (incA c xss k) (xss k)
theorem incA_len (c:List Int)(xss:Nat->List Int)(k:Nat):(incA c xss k).length=c.length:=by
 induction k with
 | zero=>rfl
 | succ k ih=>show(incL _ _).length=_;rw[incL_len,ih]
def usesP (n:Net):List Int:=incL (incA (incA (List.replicate (lnV n).toNat 0) (fun k=>(ltAt n.2.2.1 k).1) n.2.2.1.length) (fun k=>(sqAt n.2.1 k).2.2) n.2.1.length) n.2.2.2
theorem usesP_len (n:Net):(usesP n).length=(lnV n).toNat:=by
 unfold usesP;rw[incL_len,incA_len,incA_len];simp
theorem gget_ns {c:List Int}{x:Int}(h0:0<=x)(h1:x<(c.length:Int)):gget 0 c x=some (nsAt c x.toNat):=gget_some h0 h1
theorem uses_spec {n:Net}(hb:NetB n)(h:netP n=true):spec_l28Uses n=some (usesP n):=by
 obtain⟨hl,ho,hs,ht⟩:=netP_all h;have hv:=lnV_le hl;unfold spec_l28Uses usesP;have e:lnP n=lnV n:=by unfold lnP;rw[if_pos hl]
 obtain⟨N,hN⟩:∃N:Nat,lnV n=(N:Int):=⟨(lnV n).toNat,by omega⟩;rw[ln_spec,e,hN];simp only[Option.bind_some];rw[gmake_nat (by omega) (by omega),Int.toNat_natCast];simp only[Option.bind_some];have hc0:(List.replicate N (0:Int)).length=N:=by simp
 generalize List.replicate N (0:Int)=c0 at*;have hl2:=hl.2.1;have hl3:=hl.2.2.1;have hl4:=hl.2.2.2;refine loop_upto n.2.2.1.length (fun k=>((k:Int),incA c0 (fun k=>(ltAt n.2.2.1 k).1) k)) (fun k hk=> ?_) ?_
 ·obtain⟨g1,g2⟩:=lt_get hk;have gl:=hb.2.1.at g2;have gm:=belowP_mem (ht k hk).2;have hcl:=incA_len c0 (fun k=>(ltAt n.2.2.1 k).1) k;have hfl:fstP n+k<lnV n:=by unfold lnV;omega
  try dsimp only
  rw[dt (show(k:Int)<(n.2.2.1.length:Int)by omega),cond_true];have ee:incA c0 (fun k=>(ltAt n.2.2.1 k).1) (k+1)=incL (incA c0 (fun k=>(ltAt n.2.2.1 k).1) k) (ltAt n.2.2.1 k).1:=rfl;rw[ee];generalize incA c0 (fun k=>(ltAt n.2.2.1 k).1) k=c at*;refine loop_upto (ltAt n.2.2.1 k).1.length (fun j=>((j:Int),incL c ((ltAt n.2.2.1 k).1.take j))) (fun j hj=> ?_) ?_
  ·have hm:=gm _ (List.getElem_mem hj);rw[ns_at hj]at hm;have hil:=incL_len c ((ltAt n.2.2.1 k).1.take j)
   try dsimp only
   rw[g1];simp only[Option.bind_some];rw[dt (show(j:Int)<((ltAt n.2.2.1 k).1.length:Int)by omega),cond_true,nsAt_get hj];simp only[Option.bind_some];rw[gin_some hm.1 (by omega),gget_ns hm.1 (by omega)];simp only[Option.bind_some];rw[incL_take _ _ _ hj,wrap_ok (z:=(j:Int)+1) (by omega)];rfl
  ·try dsimp only
   rw[g1];simp only[Option.bind_some];rw[df (show ¬((ltAt n.2.2.1 k).1.length:Int)<((ltAt n.2.2.1 k).1.length:Int)by omega),cond_false,List.take_of_length_le (Nat.le_refl _),wrap_ok (by omega)];rfl
 try dsimp only
 rw[df (show ¬(n.2.2.1.length:Int)<(n.2.2.1.length:Int)by omega),cond_false];refine(Option.map_eq_some_iff).2 ⟨_,?_,rfl⟩;have hc1:=incA_len c0 (fun k=>(ltAt n.2.2.1 k).1) n.2.2.1.length;generalize incA c0 (fun k=>(ltAt n.2.2.1 k).1) n.2.2.1.length=c1 at*;refine loop_upto n.2.1.length (fun k=>((k:Int),incA c1 (fun k=>(sqAt n.2.1 k).2.2) k)) (fun k hk=> ?_) ?_
 ·obtain⟨g1,g2⟩:=sq_get hk;have gl:=hb.1.at g2;have gm:=belowP_mem (hs k hk).2;have hcl:=incA_len c1 (fun k=>(sqAt n.2.1 k).2.2) k
  try dsimp only
  rw[dt (show(k:Int)<(n.2.1.length:Int)by omega),cond_true];have ee:incA c1 (fun k=>(sqAt n.2.1 k).2.2) (k+1)=incL (incA c1 (fun k=>(sqAt n.2.1 k).2.2) k) (sqAt n.2.1 k).2.2:=rfl;rw[ee];generalize incA c1 (fun k=>(sqAt n.2.1 k).2.2) k=c at*;refine loop_upto (sqAt n.2.1 k).2.2.length (fun j=>((j:Int),incL c ((sqAt n.2.1 k).2.2.take j))) (fun j hj=> ?_) ?_
  ·have hm:=gm _ (List.getElem_mem hj);rw[ns_at hj]at hm;have hil:=incL_len c ((sqAt n.2.1 k).2.2.take j)
   try dsimp only
   rw[g1];simp only[Option.bind_some];rw[dt (show(j:Int)<((sqAt n.2.1 k).2.2.length:Int)by omega),cond_true,nsAt_get hj];simp only[Option.bind_some];rw[gin_some hm.1 (by omega),gget_ns hm.1 (by omega)];simp only[Option.bind_some];rw[incL_take _ _ _ hj,wrap_ok (z:=(j:Int)+1) (by omega)];rfl
  ·try dsimp only
   rw[g1];simp only[Option.bind_some];rw[df (show ¬((sqAt n.2.1 k).2.2.length:Int)<((sqAt n.2.1 k).2.2.length:Int)by omega),cond_false,List.take_of_length_le (Nat.le_refl _),wrap_ok (by omega)];rfl
 try dsimp only
 rw[df (show ¬(n.2.1.length:Int)<(n.2.1.length:Int)by omega),cond_false];refine(Option.map_eq_some_iff).2 ⟨_,?_,rfl⟩;have hc2:=incA_len c1 (fun k=>(sqAt n.2.1 k).2.2) n.2.1.length;generalize incA c1 (fun k=>(sqAt n.2.1 k).2.2) n.2.1.length=c2 at*;have gm:=belowP_mem ho;refine loop_upto n.2.2.2.length (fun j=>((j:Int),incL c2 (n.2.2.2.take j))) (fun j hj=> ?_) ?_
 ·have hm:=gm _ (List.getElem_mem hj);rw[ns_at hj]at hm;have hil:=incL_len c2 (n.2.2.2.take j)
  try dsimp only
  rw[dt (show(j:Int)<(n.2.2.2.length:Int)by omega),cond_true,nsAt_get hj];simp only[Option.bind_some];rw[gin_some hm.1 (by omega),gget_ns hm.1 (by omega)];simp only[Option.bind_some];rw[incL_take _ _ _ hj,wrap_ok (z:=(j:Int)+1) (by omega)];rfl
 ·try dsimp only
  rw[df (by omega),cond_false,List.take_of_length_le (Nat.le_refl _)];rfl
theorem uses_impl {n:Net}(hb:NetB n)(h:netP n=true):impl_useCounts n=some (usesP n):=by
 obtain⟨hl,ho,hs,ht⟩:=netP_all h;have hv:=lnV_le hl;unfold impl_useCounts usesP;obtain⟨N,hN⟩:∃N:Nat,lnV n=(N:Int):=⟨(lnV n).toNat,by omega⟩;rw[lnv_impl hl,hN];simp only[Option.bind_some];rw[gmake_nat (by omega) (by omega),Int.toNat_natCast];simp only[Option.bind_some];have hc0:(List.replicate N (0:Int)).length=N:=by simp
 generalize List.replicate N (0:Int)=c0 at*;have hl2:=hl.2.1;have hl3:=hl.2.2.1;have hl4:=hl.2.2.2;refine loop_upto n.2.2.1.length (fun k=>((k:Int),incA c0 (fun k=>(ltAt n.2.2.1 k).1) k)) (fun k hk=> ?_) ?_
 ·obtain⟨g1,g2⟩:=lt_get hk;have gl:=hb.2.1.at g2;have gm:=belowP_mem (ht k hk).2;have hcl:=incA_len c0 (fun k=>(ltAt n.2.2.1 k).1) k;have hfl:fstP n+k<lnV n:=by unfold lnV;omega
  try dsimp only
  rw[dt (show(k:Int)<(n.2.2.1.length:Int)by omega),cond_true,g1];simp only[Option.bind_some];have ee:incA c0 (fun k=>(ltAt n.2.2.1 k).1) (k+1)=incL (incA c0 (fun k=>(ltAt n.2.2.1 k).1) k) (ltAt n.2.2.1 k).1:=rfl;rw[ee];generalize incA c0 (fun k=>(ltAt n.2.2.1 k).1) k=c at*;refine loop_upto (ltAt n.2.2.1 k).1.length (fun j=>((j:Int),incL c ((ltAt n.2.2.1 k).1.take j))) (fun j hj=> ?_) ?_
  ·have hm:=gm _ (List.getElem_mem hj);rw[ns_at hj]at hm;have hil:=incL_len c ((ltAt n.2.2.1 k).1.take j)
   try dsimp only
   rw[dt (show(j:Int)<((ltAt n.2.2.1 k).1.length:Int)by omega),cond_true,nsAt_get hj];simp only[Option.bind_some];rw[gin_some hm.1 (by omega),gget_ns hm.1 (by omega)];simp only[Option.bind_some];rw[incL_take _ _ _ hj,wrap_ok (z:=(j:Int)+1) (by omega)];rfl
  ·try dsimp only
   rw[df (show ¬((ltAt n.2.2.1 k).1.length:Int)<((ltAt n.2.2.1 k).1.length:Int)by omega),cond_false,List.take_of_length_le (Nat.le_refl _),wrap_ok (by omega)];rfl
 try dsimp only
 rw[df (show ¬(n.2.2.1.length:Int)<(n.2.2.1.length:Int)by omega),cond_false];refine(Option.map_eq_some_iff).2 ⟨_,?_,rfl⟩;have hc1:=incA_len c0 (fun k=>(ltAt n.2.2.1 k).1) n.2.2.1.length;generalize incA c0 (fun k=>(ltAt n.2.2.1 k).1) n.2.2.1.length=c1 at*;refine loop_upto n.2.1.length (fun k=>((k:Int),incA c1 (fun k=>(sqAt n.2.1 k).2.2) k)) (fun k hk=> ?_) ?_
 ·obtain⟨g1,g2⟩:=sq_get hk;have gl:=hb.1.at g2;have gm:=belowP_mem (hs k hk).2;have hcl:=incA_len c1 (fun k=>(sqAt n.2.1 k).2.2) k
  try dsimp only
  rw[dt (show(k:Int)<(n.2.1.length:Int)by omega),cond_true,g1];simp only[Option.bind_some];have ee:incA c1 (fun k=>(sqAt n.2.1 k).2.2) (k+1)=incL (incA c1 (fun k=>(sqAt n.2.1 k).2.2) k) (sqAt n.2.1 k).2.2:=rfl;rw[ee];generalize incA c1 (fun k=>(sqAt n.2.1 k).2.2) k=c at*;refine loop_upto (sqAt n.2.1 k).2.2.length (fun j=>((j:Int),incL c ((sqAt n.2.1 k).2.2.take j))) (fun j hj=> ?_) ?_
  ·have hm:=gm _ (List.getElem_mem hj);rw[ns_at hj]at hm;have hil:=incL_len c ((sqAt n.2.1 k).2.2.take j)
   try dsimp only
   rw[dt (show(j:Int)<((sqAt n.2.1 k).2.2.length:Int)by omega),cond_true,nsAt_get hj];simp only[Option.bind_some];rw[gin_some hm.1 (by omega),gget_ns hm.1 (by omega)];simp only[Option.bind_some];rw[incL_take _ _ _ hj,wrap_ok (z:=(j:Int)+1) (by omega)];rfl
  ·try dsimp only
   rw[df (show ¬((sqAt n.2.1 k).2.2.length:Int)<((sqAt n.2.1 k).2.2.length:Int)by omega),cond_false,List.take_of_length_le (Nat.le_refl _),wrap_ok (by omega)];rfl
 try dsimp only
 rw[df (show ¬(n.2.1.length:Int)<(n.2.1.length:Int)by omega),cond_false];refine(Option.map_eq_some_iff).2 ⟨_,?_,rfl⟩;have hc2:=incA_len c1 (fun k=>(sqAt n.2.1 k).2.2) n.2.1.length;generalize incA c1 (fun k=>(sqAt n.2.1 k).2.2) n.2.1.length=c2 at*;have gm:=belowP_mem ho;refine loop_upto n.2.2.2.length (fun j=>((j:Int),incL c2 (n.2.2.2.take j))) (fun j hj=> ?_) ?_
 ·have hm:=gm _ (List.getElem_mem hj);rw[ns_at hj]at hm;have hil:=incL_len c2 (n.2.2.2.take j)
  try dsimp only
  rw[dt (show(j:Int)<(n.2.2.2.length:Int)by omega),cond_true,nsAt_get hj];simp only[Option.bind_some];rw[gin_some hm.1 (by omega),gget_ns hm.1 (by omega)];simp only[Option.bind_some];rw[incL_take _ _ _ hj,wrap_ok (z:=(j:Int)+1) (by omega)];rfl
 ·try dsimp only
  rw[df (by omega),cond_false,List.take_of_length_le (Nat.le_refl _)];rfl
def ucP (n:Net)(x:Int):Int:=if netP n=true/\0<=x/\x<lnV n then nsAt (usesP n) x.toNat else -1
theorem uc_impl (n:Net)(x:Int)(hb:NetB n):impl_UseCount (n,x)=some (ucP n x):=by
 unfold impl_UseCount ucP;rw[net_impl n hb];simp only[Option.bind_some];cases h:netP n with
 | false=>rw[if_neg (fun e=>by simp at e)];rfl
 | true=>
  obtain⟨hl,ho,hs,ht⟩:=netP_all h;have hv:=lnV_le hl;have hul:=usesP_len n;rw[Bool.not_true,cond_false,lnv_impl hl];simp only[Option.bind_some];rw[wrap_ok (z:=lnV n - 1) (by omega),inR_impl];simp only[Option.bind_some];by_cases h0:0<=x/\x<=lnV n - 1
  rotate_left
  ·rw[df h0,if_neg (fun e=>by omega)];rfl
  obtain⟨m,rfl⟩:∃m:Nat,x=(m:Int):=⟨x.toNat,by omega⟩;rw[dt h0,Bool.not_true,cond_false,uses_impl hb h,if_pos ⟨trivial,by omega,by omega⟩];simp only[Option.bind_some];rw[gin_nat (by omega),nsAt_get (by omega)];rfl
end Go.Pf
/-
  Own work. Draws, plainly: drawn nets, cuts, their tables, LUT networks out of mapped nets.
-/
namespace Go.Pf
open Go Go.Pu
set_option linter.unusedVariables false
theorem sized_tot {b:List Int}{c:Cur}(hb:CdOk b)(hc:CurOk b c){p q r:Int}(hp:p<=100)(hq:0<=q/\q<=100)(hr:0<=r/\r<=100):Tot (spec_l08Sized ((b,c),(p,(q,r)))) (fun o=>NB o.1/\CurOk b o.2):=by
 unfold spec_l08Sized;dsimp only;refine Tot.below hb hc fun x1 c1 k1 z1 y1=> ?_
 have hx1:0<=x1/\x1<=100:=by
  by_cases h:0<p
  ·have:=y1 h;omega
  ·have:=z1 (by omega);omega
 rw[wrap_ok (z:=1+x1) (by omega),wrap_ok (z:=q+1) (by omega),wrap_ok (z:=r+1) (by omega),wrap_ok (z:=1+(1+x1)) (by omega)];refine Tot.below hb k1 fun x2 c2 k2 _ y2=> ?_
 have hx2:=y2 (by omega);refine Tot.below hb k2 fun x3 c3 k3 _ y3=> ?_
 have hx3:=y3 (by omega);simp only;rw[wrap_ok (z:=1+(1+x1)+x2) (by omega)];refine Tot.lp (fun s=>(0<=s.1/\s.1<=x3)/\CurOk b (s.2.1,s.2.2.1)/\(s.2.2.2.length:Int)<=s.1/\∀a∈s.2.2.2,I64 a.1/\I64 a.2) (fun s=>(x3 - s.1).toNat) ⟨⟨by simp only;omega,by simp only;omega⟩,k3,by simp,fun a ha=>by cases ha⟩ (fun s hs=> ?_);obtain⟨i,u,v,as⟩:=s;obtain⟨⟨i0,i1⟩,hcu,hl,ha⟩:=hs;simp only at i0 i1 hcu hl ha;dsimp only;refine Tot.dite (fun h1=> ?_) (fun h1=> ?_)
 ·rw[wrap_ok (z:=1+(1+x1)+x2+i) (by omega),wrap_ok (z:=2*(1+(1+x1)+x2+i)) (by omega),wrap_ok (z:=i+1) (by omega)];refine Tot.below hb hcu fun x4 c4 k4 _ _=> ?_
  refine Tot.below hb k4 fun x5 c5 k5 _ y5=> ?_
  have hx5:=y5 (by omega);refine Tot.app (by simp only[List.length_singleton];omega) (by omega) ?_
  refine Tot.next ⟨⟨⟨by simp only;omega,by simp only;omega⟩,k5,by simp only[List.length_append,List.length_singleton];omega,fun a ham=> ?_⟩,by simp only;omega⟩;rcases List.mem_append.1 ham with ham | ham
  ·exact ha a ham
  ·rw[List.mem_singleton.1 ham];exact⟨wrap_in _,by unfold I64;simp only;omega⟩
 refine Tot.exit ?_
 rw[wrap_ok (z:=1+(1+x1)+x2+x3) (by omega),wrap_ok (z:=2*(1+(1+x1)+x2+x3)) (by omega)];refine Tot.lp (fun s=>(0<=s.1/\s.1<=x2)/\CurOk b (s.2.1,s.2.2.1)/\(s.2.2.2.length:Int)<=s.1/\∀a∈s.2.2.2,a.2.2.length<=4/\∀x∈a.2.2,I64 x) (fun s=>(x2 - s.1).toNat) ⟨⟨by simp only;omega,by simp only;omega⟩,hcu,by simp,fun a ha=>by cases ha⟩ (fun s hs=> ?_);obtain⟨j,u2,v2,sq⟩:=s;obtain⟨⟨j0,j1⟩,hcu2,hl2,hs2⟩:=hs;simp only at j0 j1 hcu2 hl2 hs2;dsimp only;refine Tot.dite (fun h2=> ?_) (fun h2=> ?_)
 ·have bel:∀x,0<=x/\x<2*(1+(1+x1)+x2+x3)->I64 x:=fun x hx=>by unfold I64;omega
  refine Tot.join (A:=fun a=>CurOk b (a.1,a.2.1)/\(a.2.2.length:Int)<=j+1/\∀q∈a.2.2,q.2.2.length<=4/\∀x∈q.2.2,I64 x) ?_ fun a ha2=> ?_
  ·refine Tot.once hb hcu2 fun f c6 k6=> ?_
   refine Tot.ite (fun _=> ?_) (fun _=> ?_)
   ·refine Tot.below hb k6 fun x7 c7 k7 _ _=> ?_
    refine Tot.below hb k7 fun x8 c8 k8 _ y8=> ?_
    refine Tot.below hb k8 fun x9 c9 k9 _ y9=> ?_
    refine Tot.below hb k9 fun xa ca ka _ ya=> ?_
    refine Tot.below hb ka fun xb cb kb _ yb=> ?_
    refine Tot.app (by simp only[List.length_singleton];omega) (by omega) ?_
    refine Tot.next ⟨kb,by simp only[List.length_append,List.length_singleton];omega,fun q hq=> ?_⟩;rcases List.mem_append.1 hq with hq | hq
    ·exact hs2 q hq
    ·rw[List.mem_singleton.1 hq];refine⟨by simp,fun x hx=> ?_⟩;simp only[List.mem_cons,List.not_mem_nil,or_false]at hx;rcases hx with rfl | rfl | rfl | rfl
     ·exact bel _ (y8 (by omega))
     ·exact bel _ (y9 (by omega))
     ·exact bel _ (ya (by omega))
     ·exact bel _ (yb (by omega))
   ·refine Tot.below hb k6 fun x7 c7 k7 _ _=> ?_
    refine Tot.below hb k7 fun x8 c8 k8 _ _=> ?_
    refine Tot.app (by simp only[List.length_singleton];omega) (by omega) ?_
    refine Tot.next ⟨k8,by simp only[List.length_append,List.length_singleton];omega,fun q hq=> ?_⟩;rcases List.mem_append.1 hq with hq | hq
    ·exact hs2 q hq
    ·rw[List.mem_singleton.1 hq];refine⟨by simp,fun x hx=> ?_⟩;rw[List.mem_singleton.1 hx];exact wrap_in _
  ·rw[wrap_ok (z:=j+1) (by omega)];exact Tot.next ⟨⟨⟨by simp only;omega,by simp only;omega⟩,ha2.1,ha2.2.1,ha2.2.2⟩,by simp only;omega⟩
 refine Tot.exit ?_
 refine Tot.below hb hcu2 fun x6 c6 k6 _ y6=> ?_
 have hx6:=y6 (by omega);refine Tot.lp (fun s=>(-1<=s.1/\s.1<=4)/\CurOk b (s.2.1,s.2.2.1)/\(s.2.2.2.length:Int)+s.1<=4/\∀x∈s.2.2.2,I64 x) (fun s=>(s.1+1).toNat) ⟨⟨by simp only;omega,by simp only;omega⟩,k6,by simp only[List.length_nil];omega,fun a ha=>by cases ha⟩ (fun s hs=> ?_);obtain⟨k,u3,v3,os⟩:=s;obtain⟨⟨m0,m1⟩,hcu3,hl3,ho3⟩:=hs;simp only at m0 m1 hcu3 hl3 ho3;dsimp only;refine Tot.dite (fun h3=> ?_) (fun h3=> ?_)
 ·refine Tot.below hb hcu3 fun x7 c7 k7 _ _=> ?_
  refine Tot.app (by simp only[List.length_singleton];omega) (by omega) ?_
  rw[wrap_ok (z:=k - 1) (by omega)];refine Tot.next ⟨⟨⟨by simp only;omega,by simp only;omega⟩,k7,by simp only[List.length_append,List.length_singleton];omega,fun x hx=> ?_⟩,by simp only;omega⟩;rcases List.mem_append.1 hx with hx | hx
  ·exact ho3 x hx
  ·rw[List.mem_singleton.1 hx];exact wrap_in _
 exact Tot.exit (Tot.ret ⟨⟨by simp only;omega,fun s hs=>⟨by have:=(hs2 s hs).1;omega,(hs2 s hs).2⟩,by simp only;omega,ha,by simp only;omega,ho3⟩,hcu3⟩)
theorem has13 (xs:List Int)(x:Int)(h:xs.length<=1000000):spec_l13Has (xs,x)=some (decide (x∈xs)):=has_spec xs x (by omega)
structure CutIn (n:SNet)(v:Int)(cut:List Int):Prop where
 ok:NOk n
 v0:0<=v
 v1:v<nodesOf n
 len:cut.length<=4
 mem:∀x∈cut,0<=x/\x<=v
theorem cutOk_tot {n:SNet}(h:NB n){v:Int}{cut:List Int}(hl:cut.length<=1000000):Tot (spec_CutOk (n,(v,cut))) (fun r=>r=true->CutIn n v cut):=by
 unfold spec_CutOk;dsimp only;have fals:Tot (some false) (fun r=>r=true->CutIn n v cut):=Tot.ret (fun h=>by cases h);refine Tot.bind (netOk_tot h) fun ok hok=> ?_
 refine Tot.nite (fun _=>fals) (fun ho=> ?_);have hn:=hok ho;have hc:=caps_bd hn.caps;refine Tot.dite (fun _=>fals) (fun v0=> ?_);refine Tot.bindEq (nodeCount_nok hn) ?_
 refine Tot.dite (fun _=>fals) (fun v1=> ?_);refine Tot.dite (fun _=>fals) (fun h4=> ?_);refine Tot.bind (cone_tot h) fun cone hcone=> ?_
 refine Tot.lp (fun i=>(0<=i/\i<=(cut.length:Int))/\∀x∈cut.take i.toNat,0<=x/\x<=v) (fun i=>((cut.length:Int) - i).toNat) ⟨⟨by omega,by omega⟩,fun s hs=>by simp at hs⟩ (fun i hi=> ?_);obtain⟨⟨i0,i1⟩,hi⟩:=hi;refine Tot.dite (fun h1=> ?_) (fun h1=> ?_)
 ·refine Tot.get i0 h1 fun x hx _=> ?_
  rw[has13 _ _ (by omega)];refine Tot.bindEq rfl ?_
  refine Tot.ndite (fun _=>Tot.exit fals) (fun hm=> ?_);have hxm:=hcone.2 x hm;rw[wrap_ok (z:=i+1) (by omega)];have nxt:Tot (some (Sum.inl (i+1):Int⊕Bool)) (SumP (fun i' =>((0<=i'∧i'≤(cut.length:Int))/\∀x∈cut.take i'.toNat,0<=x/\x<=v)/\((cut.length:Int) - i').toNat<((cut.length:Int) - i).toNat) (fun r=>r=true->CutIn n v cut)):=
   Tot.next ⟨⟨⟨by omega,by omega⟩,take_all i0 h1 hi (by rw[<-hx];exact⟨hxm.1,hxm.2.1⟩)⟩,by omega⟩
  refine Tot.dite (fun hi0=> ?_) (fun _=>nxt);refine Tot.get i0 h1 fun y _ _=> ?_
  rw[wrap_ok (z:=i - 1) (by omega)];refine Tot.get (by omega) (by omega) fun z _ _=> ?_
  exact Tot.dite (fun _=>Tot.exit fals) (fun _=>nxt)
 refine Tot.exit ?_
 have e1:i.toNat=cut.length:=by omega
 rw[e1,List.take_length]at hi;refine Tot.bindEq (nodeCount_nok hn) ?_
 refine Tot.make (by omega) (by omega) (by omega) ?_
 refine Tot.gin (by omega) (by rw[List.length_replicate];omega) (Tot.get (by omega) (by rw[List.length_replicate];omega) fun _ _ _=> ?_);refine Tot.lp (fun s=>(0<=s.1/\s.1<=v)/\(s.2.length:Int)=nodesOf n) (fun s=>s.1.toNat) ⟨⟨by simp only;omega,by simp only;omega⟩,by simp only[gset_len,List.length_replicate];omega⟩ (fun s hs=> ?_);obtain⟨k,op⟩:=s;obtain⟨⟨k0,k1⟩,hop⟩:=hs;simp only at k0 k1 hop;dsimp only;refine Tot.dite (fun h2=> ?_) (fun h2=> ?_)
 ·rw[wrap_ok (z:=k - 1) (by omega)];refine Tot.gin (by omega) (by omega) (Tot.get (by omega) (by omega) fun _ _ _=> ?_);have nxt:∀q:List Bool,(q.length:Int)=nodesOf n->Tot (some (Sum.inl (k - 1,q):(Int×List Bool)⊕Bool)) (SumP (fun s' =>((0<=s'.1/\s'.1<=v)/\(s'.2.length:Int)=nodesOf n)/\s'.1.toNat<k.toNat) (fun r=>r=true->CutIn n v cut)):=fun q hq=>
   Tot.next ⟨⟨⟨by simp only;omega,by simp only;omega⟩,hq⟩,by simp only;omega⟩
  refine Tot.nite (fun _=>nxt op hop) (fun _=> ?_);rw[has13 _ _ (by omega)];refine Tot.bindEq rfl ?_
  refine Tot.dite (fun _=>nxt op hop) (fun _=> ?_);refine Tot.bindEq (first_nok hn) ?_
  refine Tot.dite (fun _=>Tot.exit fals) (fun hkf=> ?_);refine Tot.bindEq (first_nok hn) ?_
  rw[wrap_ok (z:=k - firstOf n) (by omega)];refine Tot.get (by omega) (by omega) fun a ha _=> ?_
  have hl2:=and_at hn (show 0<=k - firstOf n by omega) (by omega);rw[<-ha]at hl2;unfold Lit at hl2;refine Tot.div2 (by omega) (by omega) ?_
  refine Tot.gin (by omega) (by omega) (Tot.get (by omega) (by omega) fun _ _ _=> ?_);refine Tot.div2 (by omega) (by omega) ?_
  refine Tot.gin (by omega) (by rw[gset_len];omega) (Tot.get (by omega) (by rw[gset_len];omega) fun _ _ _=> ?_);exact nxt _ (by rw[gset_len,gset_len];exact hop)
 exact Tot.exit (Tot.ret fun _=>⟨hn,by omega,by omega,by omega,hi⟩)
structure MapIn (n:SNet)(cuts:List (List Int)):Prop where
 ok:NOk n
 len:cuts.length=n.2.2.1.length
 cut:∀i,i<cuts.length->(cuts.getD i []).length<=4/\∀x∈cuts.getD i [],0<=x/\x<firstOf n+(i:Int)
theorem mapOk_tot {n:SNet}(h:NB n){cuts:List (List Int)}(hl:∀c∈cuts,c.length<=1000):Tot (spec_MappingOk (n,cuts)) (fun r=>r=true->MapIn n cuts):=by
 unfold spec_MappingOk;dsimp only;have fals:Tot (some false) (fun r=>r=true->MapIn n cuts):=Tot.ret (fun h=>by cases h);refine Tot.bind (netOk_tot h) fun ok hok=> ?_
 refine Tot.nite (fun _=>fals) (fun ho=> ?_);have hn:=hok ho;have hc:=caps_bd hn.caps;have han:=hn.an;refine Tot.dite (fun _=>fals) (fun hlen=> ?_);have hlen:cuts.length=n.2.2.1.length:=by omega
 refine Tot.lp (fun i=>(0<=i/\i<=(cuts.length:Int))/\∀k:Nat,(k:Int)<i->(cuts.getD k []).length<=4/\∀x∈cuts.getD k [],0<=x/\x<firstOf n+(k:Int)) (fun i=>((cuts.length:Int) - i).toNat) ⟨⟨by omega,by omega⟩,fun k hk=>by omega⟩ (fun i hi=> ?_);obtain⟨⟨i0,i1⟩,hi⟩:=hi;refine Tot.dite (fun h1=> ?_) (fun h1=> ?_)
 ·refine Tot.get i0 h1 fun c hcd hm=> ?_
  have hcl:=hl c hm;refine Tot.bindEq (first_nok hn) ?_
  rw[wrap_ok (z:=firstOf n+i) (by omega),wrap_ok (z:=i+1) (by omega)];refine Tot.bind (cutOk_tot h (by omega)) fun b hb=> ?_
  refine Tot.nite (fun _=>Tot.exit fals) (fun hbt=> ?_);have hcut:=hb hbt;refine Tot.get i0 h1 fun c2 hc2 _=> ?_
  have e:c2=c:=by rw[hcd,hc2]
  subst e;refine Tot.bindEq (first_nok hn) ?_
  rw[wrap_ok (z:=firstOf n+i) (by omega),has13 _ _ (by omega)];refine Tot.bindEq rfl ?_
  refine Tot.dite (fun _=>Tot.exit fals) (fun hnm=> ?_);refine Tot.next ⟨⟨⟨by omega,by omega⟩,fun k hk=> ?_⟩,by omega⟩;by_cases q:(k:Int)<i
  ·exact hi k q
  ·have e3:i.toNat=k:=by omega
   rw[e3]at hcd;rw[<-hcd];refine⟨hcut.len,fun x hx=> ?_⟩;have hx2:=hcut.mem x hx;have hne:x≠firstOf n+i:=fun e=>by subst e;exact hnm hx
   omega
 exact Tot.exit (Tot.ret fun _=>⟨hn,hlen,fun k hk=>hi k (by omega)⟩)
theorem bit_tot {v:List Int}{x:Int}(h0:0<=x)(h1:x/2<(v.length:Int))(h2:x<=9223372036854775807):Tot (spec_l09Bit (v,x)) (fun _=>True):=by
 unfold spec_l09Bit;dsimp only;refine Tot.div2 h0 h2 ?_
 refine Tot.get (by omega) h1 fun _ _ _=> ?_
 exact Tot.ret trivial
theorem shl_one {k:Int}(h:0<=k/\k<=4):∃m:Int,gshift true .i64 1 k=some m/\1<=m/\m<=16:=by
 have:k=0\/k=1\/k=2\/k=3\/k=4:=by omega
 rcases this with rfl | rfl | rfl | rfl | rfl
 ·exact⟨1,rfl,by omega,by omega⟩
 ·exact⟨2,rfl,by omega,by omega⟩
 ·exact⟨4,rfl,by omega,by omega⟩
 ·exact⟨8,rfl,by omega,by omega⟩
 ·exact⟨16,rfl,by omega,by omega⟩
theorem shift_tot {β:Type}{l:Bool}{a b:Int}{k:Int->Option β}{Q:β->Prop}(h:0<=b/\b<64)(hk:∀z,Tot (k z) Q):Tot ((gshift l .i64 a b).bind k) Q:=by
 unfold gshift;rw[if_pos (show 0<=b/\b<((IntKind.i64).bits:Int)from h)];exact hk _
theorem cutTable_tot {n:SNet}(h:NB n){v:Int}{cut:List Int}(hl:cut.length<=1000000):Tot (spec_CutTable (n,(v,cut))) (fun _=>True):=by
 unfold spec_CutTable;dsimp only;refine Tot.bind (cutOk_tot h hl) fun b hb=> ?_
 refine Tot.nite (fun _=>Tot.ret trivial) (fun hbt=> ?_);obtain⟨hn,v0,v1,h4,hmem⟩:=hb hbt;have hc:=caps_bd hn.caps;obtain⟨M,hM,hM0,hM1⟩:=shl_one (k:=(cut.length:Int)) (by omega);rw[hM];refine Tot.lp (fun s=>0<=s.1/\s.1<=M) (fun s=>(M - s.1).toNat) ⟨by simp only;omega,by simp only;omega⟩ (fun s hs=> ?_);obtain⟨i,acc⟩:=s;obtain⟨i0,i1⟩:=hs;simp only at i0 i1;refine Tot.bindEq rfl ?_
 dsimp only;refine Tot.dite (fun h1=> ?_) (fun h1=>Tot.exit (Tot.ret trivial));refine Tot.bindEq (nodeCount_nok hn) ?_
 refine Tot.make (by omega) (by omega) (by omega) ?_
 refine Tot.lp (fun s=>(0<=s.1/\s.1<=v+1)/\(s.2.length:Int)=nodesOf n) (fun s=>(v+1 - s.1).toNat) ⟨⟨by simp only;omega,by simp only;omega⟩,by simp only[List.length_replicate];omega⟩ (fun s hs=> ?_);obtain⟨k,vs⟩:=s;obtain⟨⟨k0,k1⟩,hv⟩:=hs;simp only at k0 k1 hv;dsimp only;refine Tot.dite (fun h2=> ?_) (fun h2=> ?_)
 ·refine Tot.lp (fun s=>(0<=s.2.1/\s.2.1<=(cut.length:Int))/\(s.2.2.length:Int)=nodesOf n) (fun s=>((cut.length:Int) - s.2.1).toNat) ⟨⟨by simp only;omega,by simp only;omega⟩,hv⟩ (fun s hs=> ?_);obtain⟨st,j,ws⟩:=s;obtain⟨⟨j0,j1⟩,hw⟩:=hs;simp only at j0 j1 hw;dsimp only;refine Tot.dite (fun h3=> ?_) (fun h3=> ?_)
  ·rw[wrap_ok (z:=j+1) (by omega)];refine Tot.get j0 h3 fun x _ _=> ?_
   refine Tot.dite (fun _=> ?_) (fun _=> ?_)
   ·refine shift_tot (by omega) fun z=> ?_
    refine Tot.gin (by omega) (by omega) (Tot.get (by omega) (by omega) fun _ _ _=> ?_);exact Tot.next ⟨⟨⟨by simp only;omega,by simp only;omega⟩,by simp only[gset_len];exact hw⟩,by simp only;omega⟩
   ·exact Tot.next ⟨⟨⟨by simp only;omega,by simp only;omega⟩,hw⟩,by simp only;omega⟩
  refine Tot.exit ?_
  rw[wrap_ok (z:=k+1) (by omega)];have nxt:∀q:List Int,(q.length:Int)=nodesOf n->Tot (some (Sum.inl (k+1,q):(Int×List Int)⊕((Int×Int)⊕(Int×Int)))) (SumP (fun s' =>((0<=s'.1/\s'.1<=v+1)/\(s'.2.length:Int)=nodesOf n)/\(v+1 - s'.1).toNat<(v+1 - k).toNat) (SumP (fun s' =>(0<=s'.1/\s'.1<=M)/\(M - s'.1).toNat<(M - i).toNat) (fun _=>True))):=fun q hq=>
   Tot.next ⟨⟨⟨by simp only;omega,by simp only;omega⟩,hq⟩,by simp only;omega⟩
  refine Tot.nite (fun _=> ?_) (fun _=>nxt ws hw);refine Tot.bindEq (first_nok hn) ?_
  refine Tot.dite (fun hkf=> ?_) (fun _=>nxt ws hw);refine Tot.bindEq (first_nok hn) ?_
  rw[wrap_ok (z:=k - firstOf n) (by omega)];refine Tot.get (by omega) (by omega) fun a ha _=> ?_
  have hl2:=and_at hn (show 0<=k - firstOf n by omega) (by omega);rw[<-ha]at hl2;unfold Lit at hl2;refine Tot.bind (bit_tot (by omega) (by omega) (by omega)) fun _ _=> ?_
  refine Tot.bind (bit_tot (by omega) (by omega) (by omega)) fun _ _=> ?_
  refine Tot.gin (by omega) (by omega) (Tot.get (by omega) (by omega) fun _ _ _=> ?_);exact nxt _ (by rw[gset_len];exact hw)
 refine Tot.exit ?_
 refine Tot.gin (by omega) (by omega) (Tot.get (by omega) (by omega) fun _ _ _=> ?_);refine shift_tot (by omega) fun z=> ?_
 rw[wrap_ok (z:=i+1) (by omega)];exact Tot.next ⟨⟨by simp only;omega,by simp only;omega⟩,by simp only;omega⟩
theorem tableNot_tot (t:Int×Int):Tot (spec_TableNot t) (fun _=>True):=by
 unfold spec_TableNot;refine Tot.bindEq (tbl_spec t.1 t.2) ?_
 dsimp only;refine Tot.ndite (fun _=>Tot.ret trivial) (fun h=> ?_);refine Tot.bindEq (full_cases h.1) ?_
 exact Tot.ret trivial
theorem nodes20_tot {to list:List Int}(hl:list.length<=1000)(h:∀x∈list,0<=x/\x<(to.length:Int)):Tot (spec_l20Nodes (to,list)) (fun r=>r.length=list.length):=by
 unfold spec_l20Nodes;dsimp only;refine Tot.lp (fun s=>(0<=s.1/\s.1<=(list.length:Int))/\(s.2.length:Int)=s.1) (fun s=>((list.length:Int) - s.1).toNat) ⟨⟨by simp only;omega,by simp only;omega⟩,by simp⟩ (fun s hs=> ?_);obtain⟨i,r⟩:=s;obtain⟨⟨i0,i1⟩,hr⟩:=hs;simp only at i0 i1 hr;dsimp only;refine Tot.dite (fun h1=> ?_) (fun h1=> ?_)
 ·refine Tot.get i0 h1 fun y hy hm=> ?_
  refine Tot.get (h y hm).1 (h y hm).2 fun z _ _=> ?_
  refine Tot.app (by simp only[List.length_singleton];omega) (by omega) ?_
  rw[wrap_ok (z:=i+1) (by omega)];exact Tot.next ⟨⟨⟨by simp only;omega,by simp only;omega⟩,by simp only[List.length_append,List.length_singleton];omega⟩,by simp only;omega⟩
 exact Tot.exit (Tot.ret (by omega))
theorem roots20_tot {to neg list:List Int}{m:Int}(hl:list.length<=1000)(ht:(to.length:Int)=m)(hng:(neg.length:Int)=m)(h:∀x∈list,Lit x m)(hm:m<=1000):Tot (spec_l20Roots (to,(neg,list))) (fun r=>r.length=list.length):=by
 unfold spec_l20Roots;dsimp only;refine Tot.lp (fun s=>(0<=s.1/\s.1<=(list.length:Int))/\(s.2.length:Int)=s.1) (fun s=>((list.length:Int) - s.1).toNat) ⟨⟨by simp only;omega,by simp only;omega⟩,by simp⟩ (fun s hs=> ?_);obtain⟨i,r⟩:=s;obtain⟨⟨i0,i1⟩,hr⟩:=hs;simp only at i0 i1 hr;dsimp only;refine Tot.dite (fun h1=> ?_) (fun h1=> ?_)
 ·rw[wrap_ok (z:=i+1) (by omega)];refine Tot.get i0 h1 fun y hy hm=> ?_
  have hy2:=h y hm;unfold Lit at hy2;refine Tot.rem (by omega) (by omega) ?_
  refine Tot.dite (fun _=> ?_) (fun _=> ?_)
  ·refine Tot.get i0 h1 fun y2 hy2' _=> ?_
   have e:y2=y:=by rw[hy,hy2']
   subst e;refine Tot.div2 (by omega) (by omega) ?_
   refine Tot.get (by omega) (by omega) fun z _ _=> ?_
   refine Tot.app (by simp only[List.length_singleton];omega) (by omega) ?_
   exact Tot.next ⟨⟨⟨by simp only;omega,by simp only;omega⟩,by simp only[List.length_append,List.length_singleton];omega⟩,by simp only;omega⟩
  ·refine Tot.get i0 h1 fun y2 hy2' _=> ?_
   have e:y2=y:=by rw[hy,hy2']
   subst e;refine Tot.div2 (by omega) (by omega) ?_
   refine Tot.get (by omega) (by omega) fun z _ _=> ?_
   refine Tot.app (by simp only[List.length_singleton];omega) (by omega) ?_
   exact Tot.next ⟨⟨⟨by simp only;omega,by simp only;omega⟩,by simp only[List.length_append,List.length_singleton];omega⟩,by simp only;omega⟩
 exact Tot.exit (Tot.ret (by omega))
end Go.Pf
/-
  Own work. Draws, plainly: LUT networks out of mapped nets.
-/
namespace Go.Pf
open Go Go.Pu
set_option linter.unusedVariables false
structure LB (l:Net):Prop where
 sq:l.2.1.length<=1000
 ins:∀s∈l.2.1,List.length s.2.2<=1000
 lt:l.2.2.1.length<=1000
 lins:∀x∈l.2.2.1,List.length x.1<=1000
 ot:l.2.2.2.length<=1000
theorem LB.netB {l:Net}(h:LB l):NetB l:=by
 obtain⟨h1,h2,h3,h4,h5⟩:=h;refine⟨⟨by omega,fun s hs=> ?_⟩,⟨by omega,fun x hx=> ?_⟩,by omega⟩
 ·have:=h2 s hs;unfold SeqB;omega
 ·have:=h4 x hx;unfold LutB;omega
end Go.Pf
/-
  Own work. Draws, plainly: least cuts by flow, labels, depth-optimal mappings.
-/
namespace Go.Pf
open Go Go.Pu
set_option linter.unusedVariables false
structure SI (M:Nat)(b q:List Int):Prop where
 len:b.length=M
 mem:∀x∈q,(0<=x/\x<(M:Int))/\b.getD x.toNat 0≠-2
 chain:∀j,j<q.length->b.getD (q.getD j 0).toNat 0= -1\/∃i,i<j/\b.getD (q.getD j 0).toNat 0=q.getD i 0
 cnt:q.length+b.count (-2)=M
theorem count_set:∀(b:List Int) (i:Nat) (v:Int),i<b.length->b.getD i 0= -2->v≠-2->(b.set i v).count (-2)+1=b.count (-2)
 | [],i,v,h,_,_=>by simp at h
 | x::b,0,v,_,h,hv=>by
  simp at h;subst h;simp[hv]
 | x::b,i+1,v,h,h2,hv=>by
  have ih:=count_set b i v (by simpa using h) (by simpa using h2) hv;simp only[List.set_cons_succ,List.count_cons];omega
theorem getD_app_l {xs ys:List Int}{i:Nat}(h:i<xs.length):(xs++ys).getD i 0=xs.getD i 0:=by
 simp[List.getD,List.getElem?_append_left h]
theorem SI.qlen {M:Nat}{b q:List Int}(h:SI M b q):q.length<=M:=by have:=h.cnt;omega
theorem SI.push {M:Nat}{b q:List Int}(h:SI M b q){x v:Int}(x0:0<=x/\x<(M:Int))(hx:b.getD x.toNat 0= -2)(hv:v= -1\/v∈q):SI M (gset b x v) (q++[x]):=by
 have hv2:v≠-2:=by
  rcases hv with rfl | hv
  ·omega
  ·have:=(h.mem v hv).1;omega
 have hxl:x.toNat<b.length:=by rw[h.len];omega
 have hne:∀y∈q,y.toNat≠x.toNat:=fun y hy e=>by
  have:=(h.mem y hy).2;rw[e,hx]at this;exact this rfl
 have g1:∀y∈q,(gset b x v).getD y.toNat 0=b.getD y.toNat 0:=fun y hy=>by
  unfold gset;rw[List.getD,List.getElem?_set_ne (Ne.symm (hne y hy))];rfl
 have g2:(gset b x v).getD x.toNat 0=v:=by
  unfold gset;rw[List.getD,List.getElem?_set_self hxl];rfl
 refine⟨by rw[gset_len];exact h.len,fun y hy=> ?_,fun j hj=> ?_,?_⟩
 ·rcases List.mem_append.1 hy with hy | hy
  ·rw[g1 y hy];exact h.mem y hy
  ·rw[List.mem_singleton.1 hy,g2];exact⟨x0,hv2⟩
 ·rw[List.length_append,List.length_singleton]at hj;by_cases c:j<q.length
  ·rw[getD_app_l c,g1 _ (getD_mem c)];rcases h.chain j c with e | ⟨i,hi,e⟩
   ·exact .inl e
   ·exact .inr ⟨i,hi,by rw[e,getD_app_l (by omega)]⟩
  ·have e:j=q.length:=by omega
   subst e;have e2:(q++[x]).getD q.length 0=x:=by simp[List.getD]
   rw[e2,g2];rcases hv with rfl | hv
   ·exact .inl rfl
   ·obtain⟨i,hi,rfl⟩:=List.getElem_of_mem hv;exact .inr ⟨i,hi,by rw[getD_app_l hi,List.getD,List.getElem?_eq_getElem hi];rfl⟩
 ·have:=count_set b x.toNat v hxl hx hv2;have h2:=h.cnt;unfold gset;rw[List.length_append,List.length_singleton];omega
theorem SI.start (M:Nat):SI M (List.replicate M (-2)) []:=⟨by simp,fun x hx=>(by cases hx),fun j hj=>by simp at hj,by simp⟩
theorem SI.back {M:Nat}{b q:List Int}(h:SI M b q){x:Int}(hx:x∈q):b.getD x.toNat 0= -1\/(b.getD x.toNat 0∈q/\q.idxOf (b.getD x.toNat 0)<q.idxOf x):=by
 have hj:q.idxOf x<q.length:=List.idxOf_lt_length_of_mem hx;have e:q.getD (q.idxOf x) 0=x:=by
  rw[List.getD,List.getElem?_eq_getElem hj,List.getElem_idxOf];rfl
 have hc:=h.chain _ hj;rw[e]at hc;rcases hc with hc | ⟨i,hi,hc⟩
 ·exact .inl hc
 ·right
  have hil:i<q.length:=by omega
  have hm:q.getD i 0∈q:=getD_mem hil;rw[hc];refine⟨hm,Nat.lt_of_le_of_lt ?_ hi⟩;have e2:q.getD i 0=q[i]:=by rw[List.getD,List.getElem?_eq_getElem hil];rfl
  rw[e2];by_cases c:q.idxOf q[i]<=i
  ·exact c
  ·exfalso
   have:=List.not_of_lt_findIdx (xs:=q) (p:=fun y=>y==q[i]) (i:=i) (by unfold List.idxOf at c;omega);simp at this
def AbOk (n:SNet)(ab:List Int):Prop:=(ab.length:Int)=nodesOf n/\∀y∈ab,-1<=y/\y<nodesOf n
end Go.Pf
/-
  Own work. Draws, plainly: least cuts, labels, depth-optimal mappings.
-/
namespace Go.Pf
open Go Go.Pu
set_option linter.unusedVariables false
end Go.Pf
/-
  Own work. Draws, plainly: all cuts of a node, drawn cuts, drawn LUT networks.
-/
namespace Go.Pf
open Go Go.Pu
set_option linter.unusedVariables false
theorem strict13_tot {a:List Int}(ha:a.length<=1000):Tot (spec_l13Strict a) (fun _=>True):=by
 unfold spec_l13Strict;dsimp only;refine Tot.lp (fun i=>0<=i/\i<=(a.length:Int)) (fun i=>((a.length:Int) - i).toNat) ⟨by omega,by omega⟩ (fun i hi=> ?_);obtain⟨i0,i1⟩:=hi;refine Tot.dite (fun h1=> ?_) (fun _=>Tot.exit (Tot.ret trivial));rw[wrap_ok (z:=i+1) (by omega)];refine Tot.get i0 h1 fun _ _ _=> ?_
 refine Tot.dite (fun _=>Tot.exit (Tot.ret trivial)) (fun _=> ?_);refine Tot.dite (fun h2=> ?_) (fun _=>Tot.next ⟨⟨by omega,by omega⟩,by omega⟩);refine Tot.get i0 h1 fun _ _ _=> ?_
 rw[wrap_ok (z:=i - 1) (by omega)];refine Tot.get (by omega) (by omega) fun _ _ _=> ?_
 exact Tot.dite (fun _=>Tot.exit (Tot.ret trivial)) (fun _=>Tot.next ⟨⟨by omega,by omega⟩,by omega⟩)
theorem less_tot {a b:List Int}(ha:a.length<=1000):Tot (spec_CutLess (a,b)) (fun _=>True):=by
 unfold spec_CutLess;dsimp only;refine Tot.dite (fun _=>Tot.ret trivial) (fun he=> ?_);refine Tot.lp (fun i=>0<=i/\i<=(a.length:Int)) (fun i=>((a.length:Int) - i).toNat) ⟨by omega,by omega⟩ (fun i hi=> ?_);obtain⟨i0,i1⟩:=hi;refine Tot.dite (fun h1=> ?_) (fun _=>Tot.exit (Tot.ret trivial));rw[wrap_ok (z:=i+1) (by omega)];refine Tot.get i0 h1 fun _ _ _=>Tot.get i0 (by omega) fun _ _ _=> ?_
 refine Tot.dite (fun _=> ?_) (fun _=>Tot.next ⟨⟨by omega,by omega⟩,by omega⟩);exact Tot.get i0 h1 fun _ _ _=>Tot.get i0 (by omega) fun _ _ _=>Tot.exit (Tot.ret trivial)
theorem mergeCuts_tot {a b:List Int}(ha:a.length<=1000)(hb:b.length<=1000):Tot (spec_MergeCuts (a,b)) (fun r=>r.1.length<=1000):=by
 unfold spec_MergeCuts;dsimp only;refine Tot.bind (strict13_tot ha) fun _ _=> ?_
 refine Tot.nite (fun _=>Tot.ret (by simp)) (fun _=> ?_);refine Tot.bind (strict13_tot hb) fun _ _=> ?_
 refine Tot.nite (fun _=>Tot.ret (by simp)) (fun _=> ?_);refine Tot.lp (fun s=>(0<=s.1/\s.1<=(a.length:Int))/\(0<=s.2.2/\s.2.2<=(b.length:Int))/\s.2.1.length<=4) (fun s=>((a.length:Int) - s.1+((b.length:Int) - s.2.2)).toNat) ⟨⟨by simp only;omega,by simp only;omega⟩,⟨by simp only;omega,by simp only;omega⟩,by simp⟩ (fun s hs=> ?_);obtain⟨i,o,j⟩:=s;obtain⟨⟨i0,i1⟩,⟨j0,j1⟩,ho⟩:=hs;simp only at i0 i1 j0 j1 ho;dsimp only;refine Tot.join (A:=fun _:Unit=>i<(a.length:Int)\/j<(b.length:Int)) ?_ fun _ hij=> ?_
 ·refine Tot.dite (fun h=>Tot.next (.inl h)) (fun _=> ?_);refine Tot.dite (fun h=>Tot.next (.inr h)) (fun _=> ?_);exact Tot.exit (Tot.exit (Tot.ret (by simp only;omega)))
 refine Tot.dite (fun _=>Tot.exit (Tot.ret (by simp))) (fun h4=> ?_);refine Tot.join (A:=fun c:Bool=>(c=true->i<(a.length:Int))/\(c=false->j<(b.length:Int))) ?_ fun c hc=> ?_
 ·refine Tot.dite (fun h=>Tot.next ⟨fun _=>by omega,fun e=>(by cases e)⟩) (fun _=> ?_);refine Tot.dite (fun h=> ?_) (fun _=>Tot.next ⟨fun e=>(by cases e),fun _=>by omega⟩);refine Tot.get i0 h fun _ _ _=>Tot.get j0 (by omega) fun _ _ _=> ?_
  exact Tot.next ⟨fun _=>h,fun _=>by omega⟩
 have w1:wrap .i64 (i+1)=i+1:=wrap_ok (by omega);have w2:wrap .i64 (j+1)=j+1:=wrap_ok (by omega);refine Tot.ite (fun e=> ?_) (fun e=> ?_)
 ·have hi:=hc.1 e;refine Tot.get i0 hi fun _ _ _=> ?_
  refine Tot.app (by simp only[List.length_singleton];omega) (by omega) ?_
  rw[w1];exact Tot.next ⟨⟨⟨by simp only;omega,by simp only;omega⟩,⟨j0,j1⟩,by simp only[List.length_append,List.length_singleton];omega⟩,by simp only;omega⟩
 have hj:=hc.2 e;refine Tot.dite (fun _=> ?_) (fun hi=> ?_)
 ·refine Tot.get j0 hj fun _ _ _=> ?_
  refine Tot.app (by simp only[List.length_singleton];omega) (by omega) ?_
  rw[w2];exact Tot.next ⟨⟨⟨i0,i1⟩,⟨by simp only;omega,by simp only;omega⟩,by simp only[List.length_append,List.length_singleton];omega⟩,by simp only;omega⟩
 refine Tot.get j0 hj fun _ _ _=>Tot.get i0 (by omega) fun _ _ _=> ?_
 refine Tot.dite (fun _=> ?_) (fun _=> ?_)
 ·refine Tot.get j0 hj fun _ _ _=> ?_
  refine Tot.app (by simp only[List.length_singleton];omega) (by omega) ?_
  rw[w2];exact Tot.next ⟨⟨⟨i0,i1⟩,⟨by simp only;omega,by simp only;omega⟩,by simp only[List.length_append,List.length_singleton];omega⟩,by simp only;omega⟩
 ·refine Tot.get i0 (by omega) fun _ _ _=> ?_
  refine Tot.app (by simp only[List.length_singleton];omega) (by omega) ?_
  rw[w1,w2];exact Tot.next ⟨⟨⟨by simp only;omega,by simp only;omega⟩,⟨by simp only;omega,by simp only;omega⟩,by simp only[List.length_append,List.length_singleton];omega⟩,by simp only;omega⟩
def Cts (m:Nat)(l:List (List Int)):Prop:=l.length<=m/\∀c∈l,c.length<=1000
theorem Cts.app {m k:Nat}{l:List (List Int)}{c:List Int}(h:Cts m l)(hc:c.length<=1000)(hk:m+1<=k):Cts k (l++[c]):=⟨by rw[List.length_append,List.length_singleton];have:=h.1;omega,fun x hx=>by
 rcases List.mem_append.1 hx with hx | hx
 ·exact h.2 x hx
 ·rw[List.mem_singleton.1 hx];exact hc⟩
theorem Cts.mono {m k:Nat}{l:List (List Int)}(h:Cts m l)(hk:m<=k):Cts k l:=⟨by have:=h.1;omega,h.2⟩
theorem cts_nil (m:Nat):Cts m []:=⟨by simp,fun c hc=>(by cases hc)⟩
theorem add13_tot {m:Nat}{l:List (List Int)}{c:List Int}(hl:Cts m l)(hm:m<=100000)(hc:c.length<=1000):Tot (spec_l13Add (l,c)) (fun r=>Cts (m+1) r):=by
 unfold spec_l13Add;dsimp only;have hll:=hl.1;refine Tot.lp (fun s=>(0<=s.2.1/\s.2.1<=(l.length:Int))/\Cts (s.2.1.toNat+(bif s.1 then 1 else 0)) s.2.2) (fun s=>((l.length:Int) - s.2.1).toNat) ⟨⟨by simp only;omega,by simp only;omega⟩,cts_nil _⟩ (fun s hs=> ?_);obtain⟨dn,i,o⟩:=s;obtain⟨⟨i0,i1⟩,ho⟩:=hs;simp only at i0 i1 ho;dsimp only;have hol:=ho.1;have hol2:o.length<=200000:=by cases dn<;>simp only[cond_true,cond_false]at hol<;>omega
 have w1:wrap .i64 (i+1)=i+1:=wrap_ok (by omega);rw[w1];refine Tot.dite (fun h1=> ?_) (fun h1=> ?_)
 ·refine Tot.nite (fun e=> ?_) (fun e=> ?_)
  ·subst e;simp only[cond_false]at ho;refine Tot.get i0 h1 fun x _ hx=> ?_
   refine Tot.bind (less_tot (hl.2 x hx)) fun b _=> ?_
   refine Tot.nite (fun _=> ?_) (fun _=> ?_)
   ·refine Tot.app (by simp only[List.length_singleton];omega) (by omega) ?_
    have h2:Cts (i.toNat+1) (o++[c]):=ho.app hc (by omega);refine Tot.get i0 h1 fun y _ hy=> ?_
    refine Tot.bind (less_tot hc) fun b2 _=> ?_
    refine Tot.nite (fun _=> ?_) (fun _=> ?_)
    ·exact Tot.next ⟨⟨⟨by simp only;omega,by simp only;omega⟩,h2.mono (by simp only[cond_true];omega)⟩,by simp only;omega⟩
    ·refine Tot.get i0 h1 fun z _ hz=> ?_
     refine Tot.app (by simp only[List.length_append,List.length_singleton];omega) (by omega) ?_
     exact Tot.next ⟨⟨⟨by simp only;omega,by simp only;omega⟩,h2.app (hl.2 z hz) (by simp only[cond_true];omega)⟩,by simp only;omega⟩
   ·refine Tot.get i0 h1 fun z _ hz=> ?_
    refine Tot.app (by simp only[List.length_singleton];omega) (by omega) ?_
    exact Tot.next ⟨⟨⟨by simp only;omega,by simp only;omega⟩,ho.app (hl.2 z hz) (by simp only[cond_false];omega)⟩,by simp only;omega⟩
  ·subst e;simp only[cond_true]at ho;refine Tot.get i0 h1 fun z _ hz=> ?_
   refine Tot.app (by simp only[List.length_singleton];omega) (by omega) ?_
   exact Tot.next ⟨⟨⟨by simp only;omega,by simp only;omega⟩,ho.app (hl.2 z hz) (by simp only[cond_true];omega)⟩,by simp only;omega⟩
 ·refine Tot.exit ?_
  refine Tot.nite (fun e=> ?_) (fun e=> ?_)
  ·subst e;simp only[cond_false]at ho;refine Tot.app (by simp only[List.length_singleton];omega) (by omega) ?_
   exact Tot.ret (ho.app hc (by omega))
  ·subst e;simp only[cond_true]at ho;exact Tot.ret (ho.mono (by omega))
theorem within_tot {a b:List Int}(ha:a.length<=1000)(hb:b.length<=1000):Tot (spec_l13Within (a,b)) (fun _=>True):=by
 unfold spec_l13Within;dsimp only;refine Tot.lp (fun i=>0<=i/\i<=(a.length:Int)) (fun i=>((a.length:Int) - i).toNat) ⟨by omega,by omega⟩ (fun i hi=> ?_);obtain⟨i0,i1⟩:=hi;refine Tot.dite (fun h1=> ?_) (fun _=>Tot.exit (Tot.ret trivial));rw[wrap_ok (z:=i+1) (by omega)];refine Tot.get i0 h1 fun _ _ _=> ?_
 refine Tot.bindEq (has13 _ _ (by omega)) ?_
 exact Tot.nite (fun _=>Tot.exit (Tot.ret trivial)) (fun _=>Tot.next ⟨⟨by omega,by omega⟩,by omega⟩)
end Go.Pf
/-
  Own work. Draws, plainly: LUT networks.
-/
namespace Go.Pf
open Go Go.Pu
set_option linter.unusedVariables false
end Go.Pf
/-
  Own work. Cuts, plainly: cones, covers, when a cut is valid.
-/
namespace Go.Pf
open Go Go.Pu
set_option linter.unusedVariables false
def ndA (n:SNet)(k:Int):Int:=(n.2.2.1.getD (k - firstOf n).toNat (0,0)).1/2
def ndB (n:SNet)(k:Int):Int:=(n.2.2.1.getD (k - firstOf n).toNat (0,0)).2/2
def IsA (n:SNet)(k:Int):Prop:=firstOf n<=k/\k<nodesOf n
theorem nd_at {n:SNet}(h:NOk n){k:Int}(hk:IsA n k):(0<=ndA n k/\ndA n k<k)/\(0<=ndB n k/\ndB n k<k):=by
 have hc:=caps_bd h.caps;obtain⟨k0,k1⟩:=hk;have hl:=and_at h (show 0<=k - firstOf n by omega) (by omega);unfold Lit at hl;unfold ndA ndB;omega
inductive Cn (n:SNet):Int->Int->Prop
 | r (k:Int):Cn n k k
 | a (k x:Int):IsA n k->Cn n (ndA n k) x->Cn n k x
 | b (k x:Int):IsA n k->Cn n (ndB n k) x->Cn n k x
theorem Cn.trans {n:SNet}{k x y:Int}(h:Cn n k x)(h2:Cn n x y):Cn n k y:=by
 induction h with
 | r k=>exact h2
 | a k x h1 _ ih=>exact .a k y h1 (ih h2)
 | b k x h1 _ ih=>exact .b k y h1 (ih h2)
theorem Cn.le {n:SNet}(hn:NOk n){k x:Int}(h:Cn n k x):0<=k->0<=x/\x<=k:=by
 induction h with
 | r k=>intro h;omega
 | a k x h1 _ ih=>intro h;have:=nd_at hn h1;have:=ih this.1.1;omega
 | b k x h1 _ ih=>intro h;have:=nd_at hn h1;have:=ih this.2.1;omega
inductive Cv (n:SNet)(C:List Int):Int->Prop
 | z:Cv n C 0
 | c (k:Int):k∈C->Cv n C k
 | a (k:Int):IsA n k->Cv n C (ndA n k)->Cv n C (ndB n k)->Cv n C k
theorem Cv.mono {n:SNet}{C D:List Int}{k:Int}(h:Cv n C k)(hs:∀x∈C,x∈D):Cv n D k:=by
 induction h with
 | z=>exact .z
 | c k hk=>exact .c k (hs k hk)
 | a k h1 _ _ i1 i2=>exact .a k h1 i1 i2
structure VC (n:SNet)(v:Int)(c:List Int):Prop where
 len:c.length<=4
 asc:Asc c
 cn:∀x∈c,0<=x/\Cn n v x
 cv:Cv n c v
def bI (U:List Bool)(x:Int):Bool:=U.getD x.toNat false
theorem bI_set {U:List Bool}{i x:Int}(i0:0<=i)(i1:i<(U.length:Int))(x0:0<=x)(v:Bool):bI (gset U i v) x=if i=x then v else bI U x:=by
 unfold bI gset;by_cases h:i=x
 ·subst h;rw[if_pos rfl,List.getD,List.getElem?_set_self (by omega)];rfl
 ·rw[if_neg h,List.getD,List.getElem?_set_ne (by omega)];rfl
theorem bI_rep (N:Nat)(x:Int):bI (List.replicate N false) x=false:=by
 unfold bI;rw[List.getD,List.getElem?_replicate];split<;>rfl
theorem mark_all {n:SNet}(h:NOk n){marks:List Bool}(hm:(marks.length:Int)=nodesOf n){P:Int->Prop}(hP:∀k,IsA n k->P k->P (ndA n k)/\P (ndB n k))(h0:∀x,0<=x->bI marks x=true->P x):Tot (spec_l08Mark (n,marks)) (fun r=>(r.length:Int)=nodesOf n/\(∀x,0<=x->bI marks x=true->bI r x=true)/\(∀k,IsA n k->bI r k=true->bI r (ndA n k)=true/\bI r (ndB n k)=true)/\∀x,0<=x->bI r x=true->P x):=by
 unfold spec_l08Mark;dsimp only;have hc:=caps_bd h.caps;have han:=h.an;refine Tot.app (by simp only[List.length_nil];omega) (by omega) ?_
 rw[List.nil_append,wrap_ok (by omega)];refine Tot.lp (fun s=>(-1<=s.1/\s.1<(n.2.2.1.length:Int))/\(s.2.length:Int)=nodesOf n/\(∀x,0<=x->bI marks x=true->bI s.2 x=true)/\(∀k,IsA n k->firstOf n+s.1<k->bI s.2 k=true->bI s.2 (ndA n k)=true/\bI s.2 (ndB n k)=true)/\∀x,0<=x->bI s.2 x=true->P x) (fun s=>(s.1+1).toNat) ⟨⟨by simp only;omega,by simp only;omega⟩,hm,fun _ _ hx=>hx,fun k hk h1=>by unfold IsA at hk;simp only at h1;omega,h0⟩ (fun s hs=> ?_);obtain⟨i,r⟩:=s;obtain⟨⟨i0,i1⟩,hr,h1,h2,h3⟩:=hs;simp only at i0 i1 hr h1 h2 h3;dsimp only;refine Tot.dite (fun hi=> ?_) (fun hi=> ?_)
 ·refine Tot.bindEq (first_nok h) ?_
  rw[wrap_ok (z:=firstOf n+i) (by omega),wrap_ok (z:=i - 1) (by omega)];have hia:IsA n (firstOf n+i):=⟨by omega,by omega⟩;have hnd:=nd_at h hia;have eA:ndA n (firstOf n+i)=(n.2.2.1.getD i.toNat (0,0)).1/2:=by unfold ndA;rw[show firstOf n+i - firstOf n=i by omega]
  have eB:ndB n (firstOf n+i)=(n.2.2.1.getD i.toNat (0,0)).2/2:=by unfold ndB;rw[show firstOf n+i - firstOf n=i by omega]
  refine Tot.gin (by omega) (by omega) (Tot.get (by omega) (by omega) fun b hb _=> ?_)
  change b=bI r (firstOf n+i)at hb
  refine Tot.ite (fun hbt=> ?_) (fun hbf=> ?_)
  ·refine Tot.get hi i1 fun a ha _=> ?_
   have haa:=and_at h hi i1;rw[<-ha]at haa eA eB;unfold Lit at haa;refine Tot.div2 (by omega) (by omega) ?_
   refine Tot.gin (by omega) (by omega) (Tot.get (by omega) (by omega) fun _ _ _=> ?_);refine Tot.get hi i1 fun a2 ha2 _=> ?_
   have e:a2=a:=by rw[ha,ha2]
   subst e;refine Tot.div2 (by omega) (by omega) ?_
   refine Tot.gin (by omega) (by rw[gset_len];omega) (Tot.get (by omega) (by rw[gset_len];omega) fun _ _ _=> ?_);rw[<-eA,<-eB];have g:∀x,0<=x->bI (gset (gset r (ndA n (firstOf n+i)) true) (ndB n (firstOf n+i)) true) x=if ndB n (firstOf n+i)=x then true else if ndA n (firstOf n+i)=x then true else bI r x:=fun x hx=>by
    rw[bI_set hnd.2.1 (by rw[gset_len];omega) hx,bI_set hnd.1.1 (by omega) hx]
   have gm:∀x,0<=x->bI r x=true->bI (gset (gset r (ndA n (firstOf n+i)) true) (ndB n (firstOf n+i)) true) x=true:=fun x hx hb=>by
    rw[g x hx];split
    ·rfl
    split
    ·rfl
    exact hb
   refine Tot.next ⟨⟨⟨by simp only;omega,by simp only;omega⟩,by simp only[gset_len];exact hr,fun x hx hb=>gm x hx (h1 x hx hb),fun k hk hlt hb=> ?_,fun x hx hb3=> ?_⟩,by simp only;omega⟩
   ·simp only at hlt hb ⊢;have hkn:=nd_at h hk;have hk0:0<=k:=by unfold IsA at hk;omega
    by_cases c:k=firstOf n+i
    ·subst c;rw[g _ hnd.1.1,g _ hnd.2.1];exact⟨by split;rfl;rw[if_pos rfl],by rw[if_pos rfl]⟩
    ·have hb2:bI r k=true:=by
      rw[g k hk0,if_neg (by omega),if_neg (by omega)]at hb;exact hb
     have:=h2 k hk (by omega) hb2;exact⟨gm _ hkn.1.1 this.1,gm _ hkn.2.1 this.2⟩
   ·simp only at hb3;have hPk:=hP _ hia (h3 _ (by omega) (by rw[<-hb];exact hbt));rw[g x hx]at hb3;split at hb3
    ·rename_i c;rw[<-c];exact hPk.2
    split at hb3
    ·rename_i c;rw[<-c];exact hPk.1
    exact h3 x hx hb3
  ·refine Tot.next ⟨⟨⟨by simp only;omega,by simp only;omega⟩,hr,h1,fun k hk hlt hb2=> ?_,h3⟩,by simp only;omega⟩;simp only at hlt hb2 ⊢;by_cases c:k=firstOf n+i
   ·subst c;rw[<-hb,hbf]at hb2;cases hb2
   ·exact h2 k hk (by omega) hb2
 exact Tot.exit (Tot.ret ⟨hr,h1,fun k hk hb=>h2 k hk (by unfold IsA at hk;omega) hb,h3⟩)
theorem cone_all {n:SNet}(h:NOk n)(hk:spec_NetOk n=some true){v:Int}(v0:0<=v)(v1:v<nodesOf n):Tot (spec_Cone (n,v)) (fun r=>r.length<=1000/\∀x,x∈r↔Cn n v x):=by
 unfold spec_Cone;dsimp only;have hc:=caps_bd h.caps;refine Tot.bindEq hk ?_
 refine Tot.nite (fun e=>by cases e) (fun _=> ?_);refine Tot.dite (fun e=>by omega) (fun _=> ?_);refine Tot.bindEq (nodeCount_nok h) ?_
 refine Tot.dite (fun e=>by omega) (fun _=> ?_);refine Tot.bindEq (nodeCount_nok h) ?_
 refine Tot.make (by omega) (by omega) (by omega) ?_
 refine Tot.gin v0 (by rw[List.length_replicate];omega) (Tot.get v0 (by rw[List.length_replicate];omega) fun _ _ _=> ?_);have hset:∀x,0<=x->bI (gset (List.replicate (nodesOf n).toNat false) v true) x=if v=x then true else false:=fun x hx=>by
  rw[bI_set v0 (by rw[List.length_replicate];omega) hx,bI_rep]
 refine Tot.bind (mark_all h (P:=Cn n v) (by rw[gset_len,List.length_replicate];omega) (fun k hk hp=>⟨hp.trans (.a _ _ hk (.r _)),hp.trans (.b _ _ hk (.r _))⟩) (fun x hx hb=> ?_)) fun r hr=> ?_
 ·rw[hset x hx]at hb;split at hb
  ·rename_i c;rw[<-c];exact .r v
  ·cases hb
 obtain⟨hrl,h1,h2,h3⟩:=hr;have hcl:∀x,Cn n v x->bI r x=true:=by
  have key:∀k x,Cn n k x->bI r k=true->bI r x=true:=fun k x hx=>by
   induction hx with
   | r k=>exact fun hb=>hb
   | a k x hk _ ih=>exact fun hb=>ih (h2 k hk hb).1
   | b k x hk _ ih=>exact fun hb=>ih (h2 k hk hb).2
  exact fun x hx=>key v x hx (h1 v v0 (by rw[hset v v0,if_pos rfl]))
 refine Tot.lp (fun s=>(0<=s.1/\s.1<=(r.length:Int))/\(s.2.length:Int)<=s.1/\∀x,x∈s.2↔(0<=x/\x<s.1/\bI r x=true)) (fun s=>((r.length:Int) - s.1).toNat) ⟨⟨by simp only;omega,by simp only;omega⟩,by simp,fun x=>⟨fun hx=>(by cases hx),fun hx=>by simp only at hx;omega⟩⟩ (fun s hs=> ?_);obtain⟨i,o⟩:=s;obtain⟨⟨i0,i1⟩,hol,ho⟩:=hs;simp only at i0 i1 hol ho;dsimp only;refine Tot.dite (fun hi=> ?_) (fun hi=>Tot.exit (Tot.ret ⟨by omega,fun x=> ?_⟩))
 ·rw[wrap_ok (z:=i+1) (by omega)];refine Tot.gin i0 hi (Tot.get i0 hi fun b hb _=> ?_)
  change b=bI r i at hb
  refine Tot.ite (fun hbt=> ?_) (fun hbf=> ?_)
  ·refine Tot.app (by simp only[List.length_singleton];omega) (by omega) ?_
   refine Tot.next ⟨⟨⟨by simp only;omega,by simp only;omega⟩,by simp only[List.length_append,List.length_singleton];omega,fun x=> ?_⟩,by simp only;omega⟩;simp only[List.mem_append,List.mem_singleton];rw[ho]
   constructor
   ·rintro(⟨q1,q2,q3⟩ | rfl)
    ·exact⟨q1,by omega,q3⟩
    ·exact⟨i0,by omega,by rw[<-hb];exact hbt⟩
   ·rintro⟨q1,q2,q3⟩
    by_cases c:x=i
    ·exact .inr c
    ·exact .inl ⟨q1,by omega,q3⟩
  ·refine Tot.next ⟨⟨⟨by simp only;omega,by simp only;omega⟩,by simp only;omega,fun x=> ?_⟩,by simp only;omega⟩;simp only;rw[ho]
   constructor
   ·rintro⟨q1,q2,q3⟩
    exact⟨q1,by omega,q3⟩
   ·rintro⟨q1,q2,q3⟩
    refine⟨q1,?_,q3⟩;by_cases c:x=i
    ·subst c;rw[<-hb,hbf]at q3;cases q3
    ·omega
 ·rw[ho]
  constructor
  ·rintro⟨q1,q2,q3⟩
   exact h3 x q1 q3
  ·intro hx;have:=hx.le h v0;exact⟨this.1,by omega,hcl x hx⟩
theorem asc_at {c:List Int}(h:Asc c){i:Int}(h0:0<i)(h1:i<(c.length:Int)):c.getD (i - 1).toNat 0<c.getD i.toNat 0:=by
 rw[List.getD,List.getElem?_eq_getElem (show(i - 1).toNat<c.length by omega),List.getD,List.getElem?_eq_getElem (show i.toNat<c.length by omega)];exact List.pairwise_iff_getElem.1 h _ _ _ _ (by omega)
theorem cutOk_true {n:SNet}(hn:NOk n)(hk:spec_NetOk n=some true){v:Int}(v0:0<=v)(v1:v<nodesOf n){cut:List Int}(hv:VC n v cut):Tot (spec_CutOk (n,(v,cut))) (fun r=>r=true):=by
 unfold spec_CutOk;dsimp only;have hc:=caps_bd hn.caps;have h4:=hv.len;refine Tot.bindEq hk ?_
 refine Tot.nite (fun e=>by cases e) (fun _=> ?_);refine Tot.dite (fun e=>by omega) (fun _=> ?_);refine Tot.bindEq (nodeCount_nok hn) ?_
 refine Tot.dite (fun e=>by omega) (fun _=> ?_);refine Tot.dite (fun e=>by omega) (fun _=> ?_);refine Tot.bind (cone_all hn hk v0 v1) fun cone hcone=> ?_
 refine Tot.lp (fun i=>0<=i/\i<=(cut.length:Int)) (fun i=>((cut.length:Int) - i).toNat) ⟨by omega,by omega⟩ (fun i hi=> ?_);obtain⟨i0,i1⟩:=hi;refine Tot.dite (fun h1=> ?_) (fun h1=> ?_)
 ·refine Tot.get i0 h1 fun x hx hxm=> ?_
  refine Tot.bindEq (has13 _ _ (by omega)) ?_
  refine Tot.ndite (fun hm=>absurd ((hcone.2 x).2 (hv.cn x hxm).2) hm) (fun _=> ?_);rw[wrap_ok (z:=i+1) (by omega)];refine Tot.dite (fun hi0=> ?_) (fun _=>Tot.next ⟨⟨by omega,by omega⟩,by omega⟩);refine Tot.get i0 h1 fun y hy _=> ?_
  rw[wrap_ok (z:=i - 1) (by omega)];refine Tot.get (by omega) (by omega) fun z hz _=> ?_
  have:=asc_at hv.asc hi0 h1;exact Tot.dite (fun e=>by rw[hy,hz]at e;omega) (fun _=>Tot.next ⟨⟨by omega,by omega⟩,by omega⟩)
 refine Tot.exit ?_
 refine Tot.bindEq (nodeCount_nok hn) ?_
 refine Tot.make (by omega) (by omega) (by omega) ?_
 refine Tot.gin (by omega) (by rw[List.length_replicate];omega) (Tot.get (by omega) (by rw[List.length_replicate];omega) fun _ _ _=> ?_);refine Tot.lp (fun s=>(0<=s.1/\s.1<=v)/\(s.2.length:Int)=nodesOf n/\∀x,0<=x->x<=s.1->bI s.2 x=true->Cv n cut x) (fun s=>s.1.toNat) ⟨⟨by simp only;omega,by simp only;omega⟩,by simp only[gset_len,List.length_replicate];omega,fun x hx _ hb=> ?_⟩ (fun s hs=> ?_)
 ·simp only at hb;rw[bI_set v0 (by rw[List.length_replicate];omega) hx,bI_rep]at hb;split at hb
  ·rename_i c;rw[<-c];exact hv.cv
  ·cases hb
 obtain⟨k,op⟩:=s;obtain⟨⟨k0,k1⟩,hop,hcv⟩:=hs;simp only at k0 k1 hop hcv;dsimp only;refine Tot.dite (fun h2=> ?_) (fun h2=>Tot.exit (Tot.ret rfl));rw[wrap_ok (z:=k - 1) (by omega)];refine Tot.gin (by omega) (by omega) (Tot.get (by omega) (by omega) fun b hb _=> ?_)
 change b=bI op k at hb
 have nxt:Tot (some (Sum.inl (k - 1,op):(Int×List Bool)⊕Bool)) (SumP (fun s' =>((0<=s'.1/\s'.1<=v)/\(s'.2.length:Int)=nodesOf n/\∀x,0<=x->x<=s'.1->bI s'.2 x=true->Cv n cut x)/\s'.1.toNat<k.toNat) (fun r=>r=true)):=
  Tot.next ⟨⟨⟨by simp only;omega,by simp only;omega⟩,hop,fun x hx hx2 hb=>hcv x hx (by simp only at hx2;omega) hb⟩,by simp only;omega⟩
 refine Tot.nite (fun _=>nxt) (fun hbt=> ?_);refine Tot.bindEq (has13 _ _ (by omega)) ?_
 refine Tot.dite (fun _=>nxt) (fun hnc=> ?_);have hck:=hcv k k0 (Int.le_refl _) (by rw[<-hb];exact hbt);have hcase:IsA n k/\Cv n cut (ndA n k)/\Cv n cut (ndB n k):=by
  cases hck with
  | z=>omega
  | c _ hm=>exact absurd hm hnc
  | a _ h1 h2 h3=>exact⟨h1,h2,h3⟩
 obtain⟨hia,hcA,hcB⟩:=hcase;have hnd:=nd_at hn hia;have hia2:=hia;unfold IsA at hia2;refine Tot.bindEq (first_nok hn) ?_
 refine Tot.dite (fun e=>by omega) (fun hkf=> ?_);refine Tot.bindEq (first_nok hn) ?_
 rw[wrap_ok (z:=k - firstOf n) (by omega)];refine Tot.get (by omega) (by omega) fun a ha _=> ?_
 have hl2:=and_at hn (show 0<=k - firstOf n by omega) (by omega);rw[<-ha]at hl2;unfold Lit at hl2;have eA:ndA n k=a.1/2:=by unfold ndA;rw[<-ha]
 have eB:ndB n k=a.2/2:=by unfold ndB;rw[<-ha]
 refine Tot.div2 (by omega) (by omega) ?_
 refine Tot.gin (by omega) (by omega) (Tot.get (by omega) (by omega) fun _ _ _=> ?_);refine Tot.div2 (by omega) (by omega) ?_
 refine Tot.gin (by omega) (by rw[gset_len];omega) (Tot.get (by omega) (by rw[gset_len];omega) fun _ _ _=> ?_);rw[<-eA,<-eB];refine Tot.next ⟨⟨⟨by simp only;omega,by simp only;omega⟩,by simp only[gset_len];exact hop,fun x hx hx2 hb=> ?_⟩,by simp only;omega⟩;simp only at hx2 hb;rw[bI_set hnd.2.1 (by rw[gset_len];omega) hx,bI_set hnd.1.1 (by omega) hx]at hb;split at hb
 ·rename_i c;rw[<-c];exact hcB
 split at hb
 ·rename_i c;rw[<-c];exact hcA
 exact hcv x hx (by omega) hb
theorem mapOk_true {n:SNet}(hn:NOk n)(hk:spec_NetOk n=some true){cuts:List (List Int)}(hl:cuts.length=n.2.2.1.length)(hv:∀i:Int,0<=i->i<(cuts.length:Int)->VC n (firstOf n+i) (cuts.getD i.toNat [])/\(firstOf n+i)∉cuts.getD i.toNat []):spec_MappingOk (n,cuts)=some true:=by
 have key:Tot (spec_MappingOk (n,cuts)) (fun r=>r=true):=by
  unfold spec_MappingOk;dsimp only;have hc:=caps_bd hn.caps;have han:=hn.an;refine Tot.bindEq hk ?_
  refine Tot.nite (fun e=>by cases e) (fun _=> ?_);refine Tot.dite (fun e=>by omega) (fun _=> ?_);refine Tot.lp (fun i=>0<=i/\i<=(cuts.length:Int)) (fun i=>((cuts.length:Int) - i).toNat) ⟨by omega,by omega⟩ (fun i hi=> ?_);obtain⟨i0,i1⟩:=hi;refine Tot.dite (fun h1=> ?_) (fun h1=>Tot.exit (Tot.ret rfl));obtain⟨w1,w2⟩:=hv i i0 h1;refine Tot.get i0 h1 fun c hcd _=> ?_
  rw[<-hcd]at w1 w2;refine Tot.bindEq (first_nok hn) ?_
  rw[wrap_ok (z:=firstOf n+i) (by omega),wrap_ok (z:=i+1) (by omega)];refine Tot.bind (cutOk_true hn hk (by omega) (by omega) w1) fun b hb=> ?_
  subst hb;refine Tot.nite (fun e=>by cases e) (fun _=> ?_);refine Tot.get i0 h1 fun c2 hcd2 _=> ?_
  have e:c2=c:=by rw[hcd,hcd2]
  subst e;refine Tot.bindEq (first_nok hn) ?_
  have:=w1.len;rw[wrap_ok (z:=firstOf n+i) (by omega)];refine Tot.bindEq (has13 _ _ (by omega)) ?_
  exact Tot.dite (fun e=>absurd e w2) (fun _=>Tot.next ⟨⟨by omega,by omega⟩,by omega⟩)
 obtain⟨o,h1,h2⟩:=key;rw[h1,h2]
end Go.Pf
/-
  Own work. Cuts, plainly: merged cuts, all cuts of a node, drawn cuts are valid.
-/
namespace Go.Pf
open Go Go.Pu
set_option linter.unusedVariables false
theorem Tot.and {α:Type}{X:Option α}{P Q:α->Prop}(h1:Tot X P)(h2:Tot X Q):Tot X (fun r=>P r/\Q r):=by
 obtain⟨o,e1,p⟩:=h1;obtain⟨o2,e2,q⟩:=h2;rw[e1]at e2;cases e2
 exact⟨o,e1,p,q⟩
theorem asc_of {a:List Int}(h:∀i:Int,0<i->i<(a.length:Int)->a.getD (i - 1).toNat 0<a.getD i.toNat 0):Asc a:=by
 unfold Asc;refine List.pairwise_iff_getElem.2 fun i j hi hj hij=> ?_
 have key:∀d i:Nat,i+d+1<a.length->a.getD i 0<a.getD (i+d+1) 0:=fun d=>by
  induction d with
  | zero=>
   intro i hi;have:=h ((i+1:Nat):Int) (by omega) (by omega);rw[show(((i+1:Nat):Int) - 1).toNat=i by omega,Int.toNat_natCast]at this;exact this
  | succ d ih=>
   intro i hi;have h1:=ih i (by omega);have h2:=h ((i+d+2:Nat):Int) (by omega) (by omega);rw[show(((i+d+2:Nat):Int) - 1).toNat=i+d+1 by omega,Int.toNat_natCast]at h2;exact Int.lt_trans h1 h2
 have:=key (j - i - 1) i (by omega);rw[show i+(j - i - 1)+1=j by omega]at this;rw[List.getD,List.getElem?_eq_getElem hi,List.getD,List.getElem?_eq_getElem hj]at this;exact this
def Nng (a:List Int):Prop:=∀x∈a,0<=x
theorem strict13_all {a:List Int}(ha:a.length<=1000):Tot (spec_l13Strict a) (fun r=>r=true↔(Asc a/\Nng a)):=by
 unfold spec_l13Strict;dsimp only;refine Tot.lp (fun i=>(0<=i/\i<=(a.length:Int))/\(∀j:Int,0<j->j<i->a.getD (j - 1).toNat 0<a.getD j.toNat 0)/\∀j:Int,0<=j->j<i->0<=a.getD j.toNat 0) (fun i=>((a.length:Int) - i).toNat) ⟨⟨by omega,by omega⟩,fun j _ _=>by omega,fun j _ _=>by omega⟩ (fun i hi=> ?_);obtain⟨⟨i0,i1⟩,hs,hn⟩:=hi;refine Tot.dite (fun h1=> ?_) (fun h1=>Tot.exit (Tot.ret ⟨fun _=>⟨asc_of fun j j0 j1=>hs j j0 (by omega),fun x hx=> ?_⟩,fun _=>rfl⟩))
 ·rw[wrap_ok (z:=i+1) (by omega)];refine Tot.get i0 h1 fun x hx hxm=> ?_
  refine Tot.dite (fun h2=>Tot.exit (Tot.ret ⟨fun e=>(by cases e),fun e=> ?_⟩)) (fun h2=> ?_)
  ·have:=e.2 x hxm;omega
  have hn' :∀j:Int,0<=j->j<i+1->0<=a.getD j.toNat 0:=fun j j0 j1=>by
   by_cases c:j=i
   ·subst c;rw[<-hx];omega
   ·exact hn j j0 (by omega)
  refine Tot.dite (fun h3=> ?_) (fun h3=>Tot.next ⟨⟨⟨by omega,by omega⟩,fun j j0 j1=>hs j j0 (by omega),hn'⟩,by omega⟩);refine Tot.get i0 h1 fun y hy _=> ?_
  rw[wrap_ok (z:=i - 1) (by omega)];refine Tot.get (by omega) (by omega) fun z hz _=> ?_
  refine Tot.dite (fun h4=>Tot.exit (Tot.ret ⟨fun e=>(by cases e),fun e=> ?_⟩)) (fun h4=> ?_)
  ·have:=asc_at e.1 h3 h1;rw[<-hy,<-hz]at this;omega
  refine Tot.next ⟨⟨⟨by omega,by omega⟩,fun j j0 j1=> ?_,hn'⟩,by omega⟩;by_cases c:j=i
  ·subst c;rw[<-hz,<-hy];omega
  ·exact hs j j0 (by omega)
 ·obtain⟨k,hk,rfl⟩:=List.getElem_of_mem hx;have:=hn (k:Int) (by omega) (by omega);rw[Int.toNat_natCast,List.getD,List.getElem?_eq_getElem hk]at this;exact this
def Mg (x y c:List Int):Prop:=Asc c/\c.length<=4/\∀z,z∈c↔z∈x\/z∈y
theorem dropc {a:List Int}{i:Int}(h0:0<=i)(h1:i<(a.length:Int)):a.drop i.toNat=a.getD i.toNat 0::a.drop (i+1).toNat:=by
 rw[List.drop_eq_getElem_cons (by omega),List.getD,List.getElem?_eq_getElem (by omega),show(i+1).toNat=i.toNat+1 by omega];rfl
theorem takec {a:List Int}{i:Int}(h0:0<=i)(h1:i<(a.length:Int)):a.take (i+1).toNat=a.take i.toNat++[a.getD i.toNat 0]:=by
 rw[show(i+1).toNat=i.toNat+1 by omega,take_succ' a i.toNat (by omega),List.getD,List.getElem?_eq_getElem (by omega)];rfl
theorem asc_drop {a:List Int}(h:Asc a){i:Int}(h0:0<=i)(h1:i<(a.length:Int)):∀y∈a.drop (i+1).toNat,a.getD i.toNat 0<y:=by
 have h2:(a.drop i.toNat).Pairwise (·<·):=List.Pairwise.sublist (List.drop_sublist _ _) h;rw[dropc h0 h1]at h2;exact(List.pairwise_cons.1 h2).1
structure MI (a b:List Int)(i:Int)(o:List Int)(j:Int):Prop where
 i0:0<=i
 i1:i<=(a.length:Int)
 j0:0<=j
 j1:j<=(b.length:Int)
 asc:Asc o
 len:o.length<=4
 cnt:(o.length:Int)<=i+j
 mem:∀x,x∈o↔x∈a.take i.toNat\/x∈b.take j.toNat
 la:∀x∈o,∀y∈a.drop i.toNat,x<y
 lb:∀x∈o,∀y∈b.drop j.toNat,x<y
theorem MI.symm {a b:List Int}{i j:Int}{o:List Int}(h:MI a b i o j):MI b a j o i:=
 ⟨h.j0,h.j1,h.i0,h.i1,h.asc,h.len,by have:=h.cnt;omega,fun x=>by rw[h.mem x];exact Or.comm,h.lb,h.la⟩
theorem asc_app {o:List Int}{x:Int}(h:Asc o)(hx:∀y∈o,y<x):Asc (o++[x]):=by
 unfold Asc;refine List.pairwise_append.2 ⟨h,List.pairwise_singleton _ _,fun a ha b hb=> ?_⟩;rw[List.mem_singleton.1 hb];exact hx a ha
theorem MI.push {a b:List Int}{i j:Int}{o:List Int}(h:MI a b i o j)(ha:Asc a)(hi:i<(a.length:Int))(hb:∀y∈b.drop j.toNat,a.getD i.toNat 0<y)(h4:o.length<4):MI a b (i+1) (o++[a.getD i.toNat 0]) j:=by
 have hd:=dropc h.i0 hi;refine⟨by have:=h.i0;omega,by omega,h.j0,h.j1,asc_app h.asc fun y hy=>h.la y hy _ (by rw[hd];simp),by simp;omega,by rw[List.length_append,List.length_singleton];have:=h.cnt;omega,fun x=> ?_,fun x hx y hy=> ?_,fun x hx y hy=> ?_⟩
 ·rw[List.mem_append,List.mem_singleton,h.mem,takec h.i0 hi,List.mem_append,List.mem_singleton]
  constructor
  ·rintro((q | q) | q)
   ·exact .inl (.inl q)
   ·exact .inr q
   ·exact .inl (.inr q)
  ·rintro((q | q) | q)
   ·exact .inl (.inl q)
   ·exact .inr q
   ·exact .inl (.inr q)
 ·rcases List.mem_append.1 hx with q | q
  ·exact h.la x q y (by rw[hd];exact List.mem_cons_of_mem _ hy)
  ·rw[List.mem_singleton.1 q];exact asc_drop ha h.i0 hi y hy
 ·rcases List.mem_append.1 hx with q | q
  ·exact h.lb x q y hy
  ·rw[List.mem_singleton.1 q];exact hb y hy
theorem MI.both {a b:List Int}{i j:Int}{o:List Int}(h:MI a b i o j)(ha:Asc a)(hb:Asc b)(hi:i<(a.length:Int))(hj:j<(b.length:Int))(he:a.getD i.toNat 0=b.getD j.toNat 0)(h4:o.length<4):MI a b (i+1) (o++[a.getD i.toNat 0]) (j+1):=by
 have hd:=dropc h.i0 hi;have hdb:=dropc h.j0 hj;refine⟨by have:=h.i0;omega,by omega,by have:=h.j0;omega,by omega,asc_app h.asc fun y hy=>h.la y hy _ (by rw[hd];simp),by simp;omega,by rw[List.length_append,List.length_singleton];have:=h.cnt;omega,fun x=> ?_,fun x hx y hy=> ?_,fun x hx y hy=> ?_⟩
 ·rw[List.mem_append,List.mem_singleton,h.mem,takec h.i0 hi,takec h.j0 hj,List.mem_append,List.mem_singleton,List.mem_append,List.mem_singleton,<-he]
  constructor
  ·rintro((q | q) | q)
   ·exact .inl (.inl q)
   ·exact .inr (.inl q)
   ·exact .inl (.inr q)
  ·rintro((q | q) | (q | q))
   ·exact .inl (.inl q)
   ·exact .inr q
   ·exact .inl (.inr q)
   ·exact .inr q
 ·rcases List.mem_append.1 hx with q | q
  ·exact h.la x q y (by rw[hd];exact List.mem_cons_of_mem _ hy)
  ·rw[List.mem_singleton.1 q];exact asc_drop ha h.i0 hi y hy
 ·rcases List.mem_append.1 hx with q | q
  ·exact h.lb x q y (by rw[hdb];exact List.mem_cons_of_mem _ hy)
  ·rw[List.mem_singleton.1 q,he];exact asc_drop hb h.j0 hj y hy
theorem lt_drop {b:List Int}(hb:Asc b){j x:Int}(j0:0<=j)(j1:j<(b.length:Int))(h:x<b.getD j.toNat 0):∀y∈b.drop j.toNat,x<y:=fun y hy=>by
 rw[dropc j0 j1]at hy;rcases List.mem_cons.1 hy with rfl | hy
 ·exact h
 ·exact Int.lt_trans h (asc_drop hb j0 j1 y hy)
theorem drop_end {b:List Int}{j x:Int}(h:j=(b.length:Int)):∀y∈b.drop j.toNat,x<y:=fun y hy=>by
 rw[h,Int.toNat_natCast,List.drop_length]at hy;cases hy
theorem merge_all {a b:List Int}(hla:a.length<=1000)(hlb:b.length<=1000):Tot (spec_MergeCuts (a,b)) (fun r=>(r.2=true->Mg a b r.1)/\(Asc a->Nng a->Asc b->Nng b->a.length+b.length<=4->r.2=true)):=by
 unfold spec_MergeCuts;dsimp only;refine Tot.bind (strict13_all hla) fun s1 hs1=> ?_
 refine Tot.nite (fun e=>Tot.ret ⟨fun e=>(by cases e),fun h1 h2 _ _ _=> ?_⟩) (fun e1=> ?_)
 ·rw[hs1.2 ⟨h1,h2⟩]at e;cases e
 refine Tot.bind (strict13_all hlb) fun s2 hs2=> ?_
 refine Tot.nite (fun e=>Tot.ret ⟨fun e=>(by cases e),fun _ _ h1 h2 _=> ?_⟩) (fun e2=> ?_)
 ·rw[hs2.2 ⟨h1,h2⟩]at e;cases e
 have ha:=(hs1.1 e1).1;have hb:=(hs2.1 e2).1;refine Tot.lp (fun s=>MI a b s.1 s.2.1 s.2.2) (fun s=>((a.length:Int) - s.1+((b.length:Int) - s.2.2)).toNat) (show MI a b 0 [] 0 from⟨by simp,by simp,by simp,by simp,List.Pairwise.nil,by simp,by simp,fun x=>by simp,fun x hx=>(by cases hx),fun x hx=>(by cases hx)⟩) (fun s hs=> ?_);obtain⟨i,o,j⟩:=s;simp only at hs;have i0:=hs.i0;have i1:=hs.i1;have j0:=hs.j0;have j1:=hs.j1;have ho:=hs.len;have hcn:=hs.cnt;dsimp only;refine Tot.join (A:=fun _:Unit=>i<(a.length:Int)\/j<(b.length:Int)) ?_ fun _ hij=> ?_
 ·refine Tot.dite (fun h=>Tot.next (.inl h)) (fun hi=> ?_);refine Tot.dite (fun h=>Tot.next (.inr h)) (fun hj=> ?_);refine Tot.exit (Tot.exit (Tot.ret ⟨fun _=>⟨hs.asc,hs.len,fun z=> ?_⟩,fun _ _ _ _ _=>rfl⟩));have:=hs.mem z;rw[show i.toNat=a.length by omega,show j.toNat=b.length by omega,List.take_length,List.take_length]at this;exact this
 refine Tot.dite (fun h4=>Tot.exit (Tot.ret ⟨fun e=>(by cases e),fun _ _ _ _ h=>by omega⟩)) (fun h4=> ?_);refine Tot.join (A:=fun c:Bool=>(c=true->i<(a.length:Int)/\∀y∈b.drop j.toNat,a.getD i.toNat 0<y)/\(c=false->j<(b.length:Int)/\(i<(a.length:Int)->b.getD j.toNat 0<=a.getD i.toNat 0))) ?_ fun c hc=> ?_
 ·refine Tot.dite (fun h=>Tot.next ⟨fun _=>⟨by omega,drop_end h⟩,fun e=>(by cases e)⟩) (fun hjb=> ?_);refine Tot.dite (fun h=> ?_) (fun h=>Tot.next ⟨fun e=>(by cases e),fun _=>⟨by omega,fun e=>absurd e h⟩⟩);refine Tot.get i0 h fun x hx _=>Tot.get j0 (by omega) fun y hy _=> ?_
  refine Tot.next ⟨fun e=>⟨h,lt_drop hb j0 (by omega) ?_⟩,fun e=>⟨by omega,fun _=> ?_⟩⟩
  ·have:=of_decide_eq_true e;rw[hx,hy]at this;exact this
  ·have:=of_decide_eq_false e;rw[hx,hy]at this;omega
 have w1:wrap .i64 (i+1)=i+1:=wrap_ok (by omega);have w2:wrap .i64 (j+1)=j+1:=wrap_ok (by omega);refine Tot.ite (fun e=> ?_) (fun e=> ?_)
 ·obtain⟨hi,hlt⟩:=hc.1 e;refine Tot.get i0 hi fun x hx _=> ?_
  refine Tot.app (by simp only[List.length_singleton];omega) (by omega) ?_
  rw[w1,hx];exact Tot.next ⟨hs.push ha hi hlt (by omega),by simp only;omega⟩
 obtain⟨hj,hle⟩:=hc.2 e;refine Tot.dite (fun hie=> ?_) (fun hi=> ?_)
 ·refine Tot.get j0 hj fun x hx _=> ?_
  refine Tot.app (by simp only[List.length_singleton];omega) (by omega) ?_
  rw[w2,hx];exact Tot.next ⟨(hs.symm.push hb hj (drop_end hie) (by omega)).symm,by simp only;omega⟩
 have hi:i<(a.length:Int):=by omega
 refine Tot.get j0 hj fun x hx _=>Tot.get i0 hi fun y hy _=> ?_
 refine Tot.dite (fun hlt=> ?_) (fun hge=> ?_)
 ·refine Tot.get j0 hj fun x2 hx2 _=> ?_
  refine Tot.app (by simp only[List.length_singleton];omega) (by omega) ?_
  rw[w2,hx2];exact Tot.next ⟨(hs.symm.push hb hj (lt_drop ha i0 hi (by rw[<-hx,<-hy];exact hlt)) (by omega)).symm,by simp only;omega⟩
 ·refine Tot.get i0 hi fun x2 hx2 _=> ?_
  refine Tot.app (by simp only[List.length_singleton];omega) (by omega) ?_
  rw[w1,w2,hx2];have:=hle hi;exact Tot.next ⟨hs.both ha hb hi hj (by omega) (by omega),by simp only;omega⟩
theorem add13_all {m:Nat}{l:List (List Int)}{c:List Int}(hl:Cts m l)(hm:m<=100000)(hc:c.length<=1000):Tot (spec_l13Add (l,c)) (fun r=>(∀x∈r,x∈l\/x=c)/\r≠[]):=by
 unfold spec_l13Add;dsimp only;have hll:=hl.1;refine Tot.lp (fun s=>(0<=s.2.1/\s.2.1<=(l.length:Int))/\(s.2.2.length:Int)<=s.2.1+1/\(s.1=false->(s.2.2.length:Int)<=s.2.1)/\(∀x∈s.2.2,x∈l\/x=c)/\(s.1=true->s.2.2≠[])) (fun s=>((l.length:Int) - s.2.1).toNat) ⟨⟨by simp only;omega,by simp only;omega⟩,by simp,fun _=>by simp,fun x hx=>(by cases hx),fun e=>(by cases e)⟩ (fun s hs=> ?_);obtain⟨dn,i,o⟩:=s;obtain⟨⟨i0,i1⟩,hol,hof,ho,hne⟩:=hs;simp only at i0 i1 hol hof ho hne;dsimp only;have w1:wrap .i64 (i+1)=i+1:=wrap_ok (by omega);rw[w1];have mapp:∀{o:List (List Int)} {y:List Int},(∀x∈o,x∈l\/x=c)->(y∈l\/y=c)->∀x∈o++[y],x∈l\/x=c:=fun h1 h2 x hx=>by
  rcases List.mem_append.1 hx with q | q
  ·exact h1 x q
  ·rw[List.mem_singleton.1 q];exact h2
 refine Tot.dite (fun h1=> ?_) (fun h1=> ?_)
 ·refine Tot.nite (fun e=> ?_) (fun e=> ?_)
  ·have hof:=hof e;subst e;refine Tot.get i0 h1 fun x _ hx=> ?_
   refine Tot.bind (less_tot (hl.2 x hx)) fun b _=> ?_
   refine Tot.nite (fun _=> ?_) (fun _=> ?_)
   ·refine Tot.app (by simp only[List.length_singleton];omega) (by omega) ?_
    refine Tot.get i0 h1 fun y _ hy=> ?_
    refine Tot.bind (less_tot hc) fun b2 _=> ?_
    refine Tot.nite (fun _=> ?_) (fun _=> ?_)
    ·exact Tot.next ⟨⟨⟨by simp only;omega,by simp only;omega⟩,by simp only[List.length_append,List.length_singleton];omega,fun e=>(by cases e),mapp ho (.inr rfl),fun _=>by simp⟩,by simp only;omega⟩
    ·refine Tot.get i0 h1 fun z _ hz=> ?_
     refine Tot.app (by simp only[List.length_append,List.length_singleton];omega) (by omega) ?_
     exact Tot.next ⟨⟨⟨by simp only;omega,by simp only;omega⟩,by simp only[List.length_append,List.length_singleton];omega,fun e=>(by cases e),mapp (mapp ho (.inr rfl)) (.inl hz),fun _=>by simp⟩,by simp only;omega⟩
   ·refine Tot.get i0 h1 fun z _ hz=> ?_
    refine Tot.app (by simp only[List.length_singleton];omega) (by omega) ?_
    exact Tot.next ⟨⟨⟨by simp only;omega,by simp only;omega⟩,by simp only[List.length_append,List.length_singleton];omega,fun _=>by simp only[List.length_append,List.length_singleton];omega,mapp ho (.inl hz),fun _=>by simp⟩,by simp only;omega⟩
  ·subst e;refine Tot.get i0 h1 fun z _ hz=> ?_
   refine Tot.app (by simp only[List.length_singleton];omega) (by omega) ?_
   exact Tot.next ⟨⟨⟨by simp only;omega,by simp only;omega⟩,by simp only[List.length_append,List.length_singleton];omega,fun e=>(by cases e),mapp ho (.inl hz),fun _=>by simp⟩,by simp only;omega⟩
 ·refine Tot.exit ?_
  refine Tot.nite (fun e=> ?_) (fun e=>Tot.ret ⟨ho,hne e⟩);refine Tot.app (by simp only[List.length_singleton];omega) (by omega) ?_
  exact Tot.ret ⟨mapp ho (.inr rfl),by simp⟩
def Sml (t:List Int):Prop:=t.length<=1/\Nng t
theorem Sml.asc {t:List Int}(h:Sml t):Asc t:=by
 obtain⟨h1,_⟩:=h
 match t,h1 with
 | [],_=>exact List.Pairwise.nil
 | [x],_=>exact List.pairwise_singleton _ _
theorem join13_all {a b:List (List Int)}(ha:Cts 8 a)(hb:Cts 8 b){p q:Nat}(hp:p<a.length)(hq:q<b.length)(sp:Sml (a.getD p []))(sq:Sml (b.getD q [])):Tot (spec_l13Join (a,b)) (fun r=>Cts 7 r/\(∀c∈r,∃x∈a,∃y∈b,Mg x y c)/\r≠[]):=by
 unfold spec_l13Join;dsimp only;have hal:=ha.1;have hbl:=hb.1;refine Tot.lp (fun s=>(0<=s.1/\s.1<=(a.length:Int))/\Cts (8*s.1.toNat) s.2/\(∀c∈s.2,∃x∈a,∃y∈b,Mg x y c)/\((p:Int)<s.1->s.2≠[])) (fun s=>((a.length:Int) - s.1).toNat) ⟨⟨by simp only;omega,by simp only;omega⟩,cts_nil _,fun c hc=>(by cases hc),fun e=>by simp only at e;omega⟩ (fun s hs=> ?_);obtain⟨i,l⟩:=s;obtain⟨⟨i0,i1⟩,hl,hM,hN⟩:=hs;simp only at i0 i1 hl hM hN;dsimp only;refine Tot.dite (fun h1=> ?_) (fun h1=> ?_)
 ·refine Tot.lp (fun s=>(0<=s.1/\s.1<=(b.length:Int))/\Cts (8*i.toNat+s.1.toNat) s.2/\(∀c∈s.2,∃x∈a,∃y∈b,Mg x y c)/\((p:Int)<i\/(p:Int)=i/\(q:Int)<s.1->s.2≠[])) (fun s=>((b.length:Int) - s.1).toNat) ⟨⟨by simp only;omega,by simp only;omega⟩,hl.mono (by omega),hM,fun e=>hN (by rcases e with e | e;exact e;simp only at e;omega)⟩ (fun s hs=> ?_);obtain⟨j,l2⟩:=s;obtain⟨⟨j0,j1⟩,hl2,hM2,hN2⟩:=hs;simp only at j0 j1 hl2 hM2 hN2;dsimp only;refine Tot.dite (fun h2=> ?_) (fun h2=> ?_)
  ·rw[wrap_ok (z:=j+1) (by omega)];refine Tot.get i0 h1 fun x hxd hx=>Tot.get j0 h2 fun y hyd hy=> ?_
   refine Tot.bind ((mergeCuts_tot (ha.2 x hx) (hb.2 y hy)).and (merge_all (ha.2 x hx) (hb.2 y hy))) fun r hr=> ?_
   obtain⟨hr,hr1,hr2⟩:=hr;refine Tot.ite (fun hrt=> ?_) (fun hrf=> ?_)
   ·refine Tot.bind ((add13_tot hl2 (by omega) hr).and (add13_all hl2 (by omega) hr)) fun l3 hl3=> ?_
    obtain⟨hl3,hm3,hn3⟩:=hl3;refine Tot.next ⟨⟨⟨by simp only;omega,by simp only;omega⟩,hl3.mono (by simp only;omega),fun c hc=> ?_,fun _=>hn3⟩,by simp only;omega⟩;rcases hm3 c hc with h | rfl
    ·exact hM2 c h
    ·exact⟨x,hx,y,hy,hr1 hrt⟩
   ·refine Tot.next ⟨⟨⟨by simp only;omega,by simp only;omega⟩,hl2.mono (by simp only;omega),hM2,fun e=> ?_⟩,by simp only;omega⟩;by_cases c:(p:Int)=i/\(q:Int)=j
    ·exfalso
     obtain⟨rfl,rfl⟩:=c;rw[Int.toNat_natCast]at hxd hyd;rw[<-hxd]at sp;rw[<-hyd]at sq;have:=hr2 sp.asc sp.2 sq.asc sq.2 (by have:=sp.1;have:=sq.1;omega);rw[this]at hrf;cases hrf
    ·exact hN2 (by simp only at e;omega)
  ·refine Tot.exit ?_
   rw[wrap_ok (z:=i+1) (by omega)];refine Tot.next ⟨⟨⟨by simp only;omega,by simp only;omega⟩,hl2.mono (by simp only;omega),hM2,fun e=>hN2 ?_⟩,by simp only;omega⟩;simp only at e;omega
 refine Tot.exit ?_
 have hll:=hl.1;have hne:l≠[]:=hN (by omega);have hl0:0<l.length:=List.length_pos_iff.2 hne;refine Tot.join (A:=fun r=>Cts 7 r/\(∀c∈r,∃x∈a,∃y∈b,Mg x y c)/\r≠[]) ?_ fun r hr=>Tot.ret hr
 refine Tot.lp (fun s=>(0<=s.1/\s.1<=(l.length:Int))/\Cts 7 s.2/\(∀c∈s.2,c∈l)/\(0<s.1->s.2≠[])/\(s.1=0->s.2=[])) (fun s=>((l.length:Int) - s.1).toNat) ⟨⟨by simp only;omega,by simp only;omega⟩,cts_nil _,fun c hc=>(by cases hc),fun e=>by simp only at e;omega,fun _=>rfl⟩ (fun s hs=> ?_);obtain⟨k,o⟩:=s;obtain⟨⟨k0,k1⟩,ho,hol,hoN,hoE⟩:=hs;simp only at k0 k1 ho hol hoN hoE;dsimp only;refine Tot.dite (fun h2=> ?_) (fun h2=>Tot.exit (Tot.next ⟨ho,fun c hc=>hM c (hol c hc),hoN (by omega)⟩));refine Tot.dite (fun h3=> ?_) (fun h3=>Tot.exit (Tot.next ⟨ho,fun c hc=>hM c (hol c hc),fun e=>by rw[e]at h3;simp at h3⟩));refine Tot.join (A:=fun w:Bool=>k=0->w=true) ?_ fun w hw=> ?_
 ·refine Tot.lp (fun s=>(0<=s.2/\s.2<=k)/\(k=0->s.1=true)) (fun s=>(k - s.2).toNat) ⟨⟨by simp only;omega,by simp only;omega⟩,fun _=>rfl⟩ (fun s hs=> ?_);obtain⟨w,j⟩:=s;obtain⟨⟨j0,j1⟩,hw⟩:=hs;simp only at j0 j1 hw;dsimp only;refine Tot.dite (fun h4=> ?_) (fun _=>Tot.exit (Tot.next hw));refine Tot.ite (fun _=> ?_) (fun e=>Tot.exit (Tot.next hw));rw[wrap_ok (z:=j+1) (by omega)];refine Tot.gin j0 (by omega) (Tot.get j0 (by omega) fun x _ hx=> ?_);refine Tot.gin k0 (by omega) (Tot.get k0 (by omega) fun y _ hy=> ?_);refine Tot.dite (fun _=> ?_) (fun _=>Tot.next ⟨⟨⟨by simp only;omega,by simp only;omega⟩,fun _=>rfl⟩,by simp only;omega⟩);refine Tot.gin j0 (by omega) (Tot.get j0 (by omega) fun x2 _ hx2=> ?_);refine Tot.gin k0 (by omega) (Tot.get k0 (by omega) fun y2 _ hy2=> ?_);refine Tot.bind (within_tot (hl.2 x2 hx2) (hl.2 y2 hy2)) fun b _=> ?_
  exact Tot.next ⟨⟨⟨by simp only;omega,by simp only;omega⟩,fun e=>by omega⟩,by simp only;omega⟩
 ·rw[wrap_ok (z:=k+1) (by omega)];refine Tot.ite (fun _=> ?_) (fun e=> ?_)
  ·refine Tot.gin k0 (by omega) (Tot.get k0 (by omega) fun x _ hx=> ?_);refine Tot.app (by simp only[List.length_singleton];omega) (by omega) ?_
   refine Tot.next ⟨⟨⟨by simp only;omega,by simp only;omega⟩,⟨by rw[List.length_append,List.length_singleton];omega,(ho.app (hl.2 x hx) (Nat.le_refl _)).2⟩,fun c hc=> ?_,fun _=>by simp,fun e=>by simp only at e;omega⟩,by simp only;omega⟩;rcases List.mem_append.1 hc with q | q
   ·exact hol c q
   ·rw[List.mem_singleton.1 q];exact hx
  ·have hk0:k≠0:=fun e0=>by rw[hw e0]at e;cases e
   exact Tot.next ⟨⟨⟨by simp only;omega,by simp only;omega⟩,ho,hol,fun _=>hoN (by omega),fun e=>by simp only at e;omega⟩,by simp only;omega⟩
def GL (n:SNet)(k:Int)(L:List (List Int)):Prop:=∃J t,L=J++[t]/\Sml t/\VC n k t/\(∀c∈J,VC n k c/\k∉c)/\(IsA n k->J≠[])/\J.length<=7
theorem GL.cts {n:SNet}{k:Int}{L:List (List Int)}(h:GL n k L):Cts 8 L/\(∀c∈L,VC n k c)/\0<L.length/\Sml (L.getD (L.length - 1) []):=by
 obtain⟨J,t,rfl,h1,h2,h3,h4,h5⟩:=h;have hv:∀c∈J++[t],VC n k c:=fun c hc=>by
  rcases List.mem_append.1 hc with q | q
  ·exact(h3 c q).1
  ·rw[List.mem_singleton.1 q];exact h2
 refine⟨⟨by simp;omega,fun c hc=>by have:=(hv c hc).len;omega⟩,hv,by simp,?_⟩;have e:(J++[t]).getD ((J++[t]).length - 1) []=t:=by simp[List.getD]
 rw[e];exact h1
theorem vc_self {n:SNet}{k:Int}(k0:0<=k):VC n k [k]:=⟨by simp,List.pairwise_singleton _ _,fun x hx=>by rw[List.mem_singleton.1 hx];exact⟨k0,.r k⟩,.c k (by simp)⟩
theorem all13_all {n:SNet}(h:NOk n){v:Int}(v0:0<=v)(v1:v<nodesOf n):Tot (spec_l13All (n,v)) (fun r=>(r.length:Int)=v+1/\∀j:Int,0<=j->j<=v->GL n j (r.getD j.toNat [])):=by
 unfold spec_l13All;dsimp only;have hc:=caps_bd h.caps;refine Tot.lp (fun s=>(1<=s.1/\s.1<=v+1)/\(s.2.length:Int)=s.1/\∀j:Int,0<=j->j<s.1->GL n j (s.2.getD j.toNat [])) (fun s=>(v+1 - s.1).toNat) ⟨⟨by simp only;omega,by simp only;omega⟩,by simp,fun j j0 j1=> ?_⟩ (fun s hs=> ?_)
 ·simp only at j1;have e:j=0:=by omega
  subst e;exact⟨[],[],rfl,⟨by simp,fun x hx=>(by cases hx)⟩,⟨by simp,List.Pairwise.nil,fun x hx=>(by cases hx),.z⟩,fun c hc=>(by cases hc),fun e=>by unfold IsA at e;omega,by simp⟩
 obtain⟨k,all⟩:=s;obtain⟨⟨k0,k1⟩,hl,ha⟩:=hs;simp only at k0 k1 hl ha;dsimp only;refine Tot.dite (fun h1=> ?_) (fun h1=>Tot.exit (Tot.ret ⟨by omega,fun j j0 j1=>ha j j0 (by omega)⟩));rw[wrap_ok (z:=k+1) (by omega)];have fin:∀j:List (List Int),Cts 7 j->(∀c∈j,VC n k c/\k∉c)->(IsA n k->j≠[])->Tot ((gapp 24 j [[k]]).bind fun v19=>(gapp 24 all [v19]).bind fun v21=>some (.inl (k+1,v21):(Int×List (List (List Int)))⊕List (List (List Int)))) (SumP (fun s' =>((1<=s'.1/\s'.1<=v+1)/\(s'.2.length:Int)=s'.1/\∀j:Int,0<=j->j<s'.1->GL n j (s'.2.getD j.toNat []))/\(v+1 - s'.1).toNat<(v+1 - k).toNat) (fun r=>(r.length:Int)=v+1/\∀j:Int,0<=j->j<=v->GL n j (r.getD j.toNat []))):=fun j hj hv hn=>by
  have hjl:=hj.1;refine Tot.app (by simp only[List.length_singleton];omega) (by omega) ?_
  refine Tot.app (by simp only[List.length_singleton];omega) (by omega) ?_
  refine Tot.next ⟨⟨⟨by simp only;omega,by simp only;omega⟩,by simp only[List.length_append,List.length_singleton];omega,fun x x0 x1=> ?_⟩,by simp only;omega⟩;simp only at x1 ⊢;by_cases c:x=k
  ·subst c;have e:(all++[j++[[x]]]).getD x.toNat []=j++[[x]]:=by
    rw[List.getD,List.getElem?_append_right (by omega),show x.toNat - all.length=0 by omega];rfl
   rw[e];exact⟨j,[x],rfl,⟨by simp,fun y hy=>by rw[List.mem_singleton.1 hy];omega⟩,vc_self (by omega),hv,hn,hjl⟩
  ·have e:(all++[j++[[k]]]).getD x.toNat []=all.getD x.toNat []:=by
    rw[List.getD,List.getElem?_append_left (by omega)];rfl
   rw[e];exact ha x x0 (by omega)
 refine Tot.bindEq (first_nok h) ?_
 refine Tot.dite (fun h2=> ?_) (fun h2=>fin [] (cts_nil _) (fun c hc=>(by cases hc)) (fun e=>by unfold IsA at e;omega));refine Tot.bindEq (first_nok h) ?_
 rw[wrap_ok (z:=k - firstOf n) (by omega)];have hia:IsA n k:=⟨h2,by omega⟩;have hnd:=nd_at h hia;refine Tot.get (by omega) (by omega) fun x hx _=> ?_
 have hlit:=and_at h (show 0<=k - firstOf n by omega) (by omega);rw[<-hx]at hlit;unfold Lit at hlit;have eA:ndA n k=x.1/2:=by unfold ndA;rw[<-hx]
 have eB:ndB n k=x.2/2:=by unfold ndB;rw[<-hx]
 refine Tot.div2 (by omega) (by omega) ?_
 refine Tot.gin (by omega) (by omega) (Tot.get (by omega) (by omega) fun c1 hc1 m1=> ?_);refine Tot.div2 (by omega) (by omega) ?_
 refine Tot.gin (by omega) (by omega) (Tot.get (by omega) (by omega) fun c2 hc2 m2=> ?_);have g1:=ha (ndA n k) hnd.1.1 (by omega);have g2:=ha (ndB n k) hnd.2.1 (by omega);rw[eA,<-hc1]at g1;rw[eB,<-hc2]at g2;obtain⟨p1,p2,p3,p4⟩:=g1.cts;obtain⟨q1,q2,q3,q4⟩:=g2.cts;rw[<-eA]at p2;rw[<-eB]at q2;refine Tot.bind (join13_all p1 q1 (by omega) (by omega) p4 q4) fun j hj=> ?_
 obtain⟨hj1,hj2,hj3⟩:=hj;refine fin j hj1 (fun c hc=> ?_) (fun _=>hj3);obtain⟨y,hy,z,hz,m1,m2,m3⟩:=hj2 c hc;have vy:=p2 y hy;have vz:=q2 z hz;refine⟨⟨m2,m1,fun w hw=> ?_,.a k hia (vy.cv.mono fun w hw=>(m3 w).2 (.inl hw)) (vz.cv.mono fun w hw=>(m3 w).2 (.inr hw))⟩,fun hk=> ?_⟩
 ·rcases(m3 w).1 hw with q | q
  ·have:=vy.cn w q;exact⟨this.1,.a _ _ hia this.2⟩
  ·have:=vz.cn w q;exact⟨this.1,.b _ _ hia this.2⟩
 ·rcases(m3 k).1 hk with q | q
  ·have:=(vy.cn k q).2.le h hnd.1.1;omega
  ·have:=(vz.cn k q).2.le h hnd.2.1;omega
theorem enum_all {n:SNet}(h:NOk n)(hk:spec_NetOk n=some true){v:Int}(v0:0<=v)(v1:v<nodesOf n):Tot (spec_EnumCuts (n,v)) (fun r=>GL n v r):=by
 unfold spec_EnumCuts;dsimp only;refine Tot.bindEq hk ?_
 refine Tot.nite (fun e=>by cases e) (fun _=> ?_);refine Tot.dite (fun e=>by omega) (fun _=> ?_);refine Tot.bindEq (nodeCount_nok h) ?_
 refine Tot.dite (fun e=>by omega) (fun _=> ?_);refine Tot.bind (all13_all h v0 v1) fun all hall=> ?_
 obtain⟨hal,ha⟩:=hall;have hg:=ha v v0 (Int.le_refl _);obtain⟨⟨hc1,hc2⟩,_⟩:=hg.cts;generalize hcs:all.getD v.toNat []=cs at*;refine Tot.lp (fun s=>(0<=s.1/\s.1<=(cs.length:Int))/\s.2=cs.take s.1.toNat) (fun s=>((cs.length:Int) - s.1).toNat) ⟨⟨by simp only;omega,by simp only;omega⟩,by simp⟩ (fun s hs=> ?_);obtain⟨k,o⟩:=s;obtain⟨⟨k0,k1⟩,ho⟩:=hs;simp only at k0 k1 ho;subst ho;dsimp only;refine Tot.gin v0 (by omega) (Tot.get v0 (by omega) fun x hx _=> ?_);have e:x=cs:=by rw[hx,hcs]
 subst e;refine Tot.dite (fun h1=> ?_) (fun h1=>Tot.exit (Tot.ret ?_))
 ·refine Tot.gin v0 (by omega) (Tot.get v0 (by omega) fun y hy _=> ?_);have e:y=x:=by rw[hy,hcs]
  subst e;refine Tot.get k0 h1 fun c hcd hc=> ?_
  have hcl:=hc2 c hc;rw[wrap_ok (z:=k+1) (by omega)];refine Tot.app (by simp only[List.length_nil];omega) (by omega) ?_
  refine Tot.app (by simp only[List.length_singleton,List.length_take];omega) (by omega) ?_
  refine Tot.next ⟨⟨⟨by simp only;omega,by simp only;omega⟩,?_⟩,by simp only;omega⟩;simp only[List.nil_append];rw[show(k+1).toNat=k.toNat+1 by omega,take_succ' y k.toNat (by omega),hcd,List.getD,List.getElem?_eq_getElem (by omega)];rfl
 ·rw[show k.toNat=x.length by omega,List.take_length];exact hg
def MpG (n:SNet)(cuts:List (List Int)):Prop:=cuts.length=n.2.2.1.length/\∀i:Int,0<=i->i<(cuts.length:Int)->VC n (firstOf n+i) (cuts.getD i.toNat [])/\(firstOf n+i)∉cuts.getD i.toNat []
theorem cuts18_all {b:List Int}{c:Cur}(hb:CdOk b)(hc:CurOk b c){n:SNet}(h:NOk n)(hk:spec_NetOk n=some true)(hdm:Tot (spec_DepthMapping n) (MpG n)):Tot (spec_l18Cuts ((b,c),n)) (fun r=>MpG n r.1/\CurOk b r.2):=by
 unfold spec_l18Cuts;dsimp only;refine Tot.bind hdm fun m hm=> ?_
 obtain⟨hml,hmv⟩:=hm;have hcb:=caps_bd h.caps;have han:=h.an;refine Tot.lp (fun s=>(0<=s.1/\s.1<=(m.length:Int))/\CurOk b (s.2.1,s.2.2.1)/\MpG n s.2.2.2) (fun s=>((m.length:Int) - s.1).toNat) ⟨⟨by simp only;omega,by simp only;omega⟩,hc,hml,hmv⟩ (fun s hs=> ?_);obtain⟨i,p,q,o⟩:=s;obtain⟨⟨i0,i1⟩,hcu,hol,ho⟩:=hs;simp only at i0 i1 hcu hol ho;dsimp only;refine Tot.dite (fun h1=> ?_) (fun h1=>Tot.exit (Tot.ret ⟨⟨hol,ho⟩,hcu⟩));rw[wrap_ok (z:=i+1) (by omega)];refine Tot.once hb hcu fun t c1 hc1=> ?_
 refine Tot.ite (fun _=> ?_) (fun _=> ?_)
 ·refine Tot.bindEq (first_nok h) ?_
  rw[wrap_ok (z:=firstOf n+i) (by omega)];refine Tot.bind (enum_all h hk (show 0<=firstOf n+i by omega) (by omega)) fun l hl=> ?_
  obtain⟨J,tr,rfl,g1,g2,g3,g4,g5⟩:=hl;have hJ:0<J.length:=List.length_pos_iff.2 (g4 ⟨by omega,by omega⟩);rw[wrap_ok (z:=((J++[tr]).length:Int) - 1) (by rw[List.length_append,List.length_singleton];omega)];have hlen:((J++[tr]).length:Int)=(J.length:Int)+1:=by rw[List.length_append,List.length_singleton];omega
  refine Tot.below hb hc1 fun x c2 hc2 z1 y1=> ?_
  have hx:0<=x/\x<(J.length:Int):=by
   split at y1
   ·have:=y1 (by omega);omega
   ·have:=y1 (by omega);omega
  refine Tot.gin hx.1 (by omega) (Tot.get hx.1 (by omega) fun y hy _=> ?_);refine Tot.gin i0 h1 (Tot.get i0 h1 fun _ _ _=> ?_);have hyJ:y∈J:=by
   rw[hy,List.getD,List.getElem?_append_left (by omega),List.getElem?_eq_getElem (by omega)];exact List.getElem_mem _
  refine Tot.next ⟨⟨⟨by simp only;omega,by simp only;omega⟩,hc2,by simp only[gset_len];exact hol,fun j j0 j1=> ?_⟩,by simp only;omega⟩;simp only[gset_len]at j1 ⊢;by_cases cj:j=i
  ·subst cj;have e:(gset o j y).getD j.toNat []=y:=by unfold gset;rw[List.getD,List.getElem?_set_self (by omega)];rfl
   rw[e];exact g3 y hyJ
  ·have e:(gset o i y).getD j.toNat []=o.getD j.toNat []:=by unfold gset;rw[List.getD,List.getElem?_set_ne (by omega)];rfl
   rw[e];exact ho j j0 j1
 ·exact Tot.next ⟨⟨⟨by simp only;omega,by simp only;omega⟩,hc1,hol,ho⟩,by simp only;omega⟩
end Go.Pf
