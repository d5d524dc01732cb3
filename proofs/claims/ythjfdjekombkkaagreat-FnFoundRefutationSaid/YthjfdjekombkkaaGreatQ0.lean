/-
  Own work: parts Pl, PbA, Pln, Dvc, Drw, Tot, Nta, Ntc, Ntd, Dvd, Path, LawPathTo, Dve, Hlp, Pla, Use, Net, Srt, Cut, Cna, plain lemmas.
-/
import Derived.Test.YthjfdjekombkkaaGreatPu3
import Derived.Test.YthjfdjekombkkaaGreatD
/-
  Own work. Plain lemmas on loops, lists and wrapped integers (no program in sight).
-/
namespace Go.Pu
open Go
theorem B6 {σ ω:Type}{f:σ->Option (σ⊕ω)}(I:σ->Prop)(Q:ω->Prop)(μ:σ->Nat)(h:∀s,I s->(∃s',f s=some (.inl s')/\I s'∧μ s' <μ s)\/(∃o,f s=some (.inr o)/\Q o)):
 ∀s,I s->∃o,loop f s=some o/\Q o:=by
 have key:∀n s,μ s<n->I s->∃o,loop f s=some o/\Q o:=by
  intro n
  induction n with
  | zero=>intro s hs;omega
  | succ n ih=>
   intro s hs hi;rcases h s hi with⟨s',h1,h2,h3⟩ | ⟨o,h1,h2⟩
   ·obtain⟨o,h4,h5⟩:=ih s' (by omega) h2;exact⟨o,by rw[Cq,h1];exact h4,h5⟩
   ·exact⟨o,by rw[Cq,h1],h2⟩
 exact fun s hi=>key _ s (Nat.lt_succ_self _) hi
theorem An2 {z:Int}(h1: -9223372036854775808<=z)(h2:z<=9223372036854775807):wrap .i64 z=z:=by
 unfold wrap IntKind.wrap;simp[IntKind.bits,IntKind.signed];omega
theorem Bq {α:Type}{d:α}{xs:List α}{i:Int}(h0:0<=i)(h1:i<(xs.length:Int)):Ak d xs i=some (xs.getD i.toNat d):=by
 unfold Ak;rw[if_pos ⟨h0,h1⟩]
theorem Cn {n:Nat}{i:Int}(h0:0<=i)(h1:i<(n:Int)):gin n i=some ():=by
 unfold gin;rw[if_pos ⟨h0,h1⟩]
theorem Br {α:Type}{b:Nat}{xs ys:List α}(h:(xs.length+ys.length)*b<=140737488355328)(h2:xs.length+ys.length<=140737488355328):A3 b xs ys=some (xs++ys):=by
 unfold A3 Aao;rw[if_pos (by simp[h,h2])]
end Go.Pu
/-
  Own work. Plain lemmas on loops over lists (no program in sight).
-/
namespace Go.Pf
open Go Go.Pu
theorem Ar {α:Type}{d:α}{xs:List α}{k:Nat}(h:k<xs.length):Ak d xs (k:Int)=some (xs[k]'h):=by
 rw[Bq (by omega) (by omega)];simp[List.getD,h]
theorem As {n k:Nat}(h:k<n):gin n (k:Int)=some ():=Cn (by omega) (by omega)
theorem B8 {α:Type}(xs:List α)(k:Nat)(x:α):A8 xs (k:Int) x=xs.set k x:=rfl
theorem dt {p:Prop} [Decidable p] (h:p):decide p=true:=decide_eq_true h
theorem df {p:Prop} [Decidable p] (h:¬p):decide p=false:=decide_eq_false h
theorem Bz {α:Type}{b:Nat}{d:α}{n:Nat}(h:n*b<=140737488355328)(h2:n<=140737488355328):Ct b d (n:Int)=some (List.replicate n d):=by
 unfold Ct Aao;rw[if_pos (by constructor;omega;simp;omega)];simp
theorem Aj {z:Int}(h: -9223372036854775808<=z/\z<=9223372036854775807):wrap .i64 z=z:=An2 h.1 h.2
theorem Ajg {σ ω:Type}{f:σ->Option (σ⊕ω)}(S:Nat->σ){o:ω}:∀(m n:Nat),(∀k,m<=k->k<m+n->f (S k)=some (.inl (S (k+1))))->f (S (m+n))=some (.inr o)->loop f (S m)=some o
 | m,0,_,h=>by rw[Cq,Nat.add_zero]at*;rw[h]
 | m,n+1,h1,h2=>by
  rw[Cq,h1 m (Nat.le_refl _) (by omega)];exact Ajg S (m+1) n (fun k q1 q2=>h1 k (by omega) (by omega)) (by rw[show m+1+n=m+(n+1)from by omega];exact h2)
theorem Ao {σ ω:Type}{f:σ->Option (σ⊕ω)}(n:Nat)(S:Nat->σ){o:ω}(h1:∀k,k<n->f (S k)=some (.inl (S (k+1))))(h2:f (S n)=some (.inr o)):loop f (S 0)=some o:=
 Ajg S 0 n (fun k _ h=>h1 k (by omega)) (by rw[Nat.zero_add];exact h2)
theorem Cl {σ ω:Type}{f:σ->Option (σ⊕ω)}(n:Nat)(S:Nat->σ)(ok:Nat->Bool)(bad good:ω)(h1:∀k,k<n->ok k=true->f (S k)=some (.inl (S (k+1))))(h2:∀k,k<n->ok k=false->f (S k)=some (.inr bad))(h3:f (S n)=some (.inr good)):
 loop f (S 0)=some (if(List.range n).all ok then good else bad):=by
 have key:∀(m j:Nat),j+m=n->loop f (S j)=some (if(List.range' j m).all ok then good else bad):=by
  intro m
  induction m with
  | zero=>
   intro j hj;rw[Cq];have:j=n:=by omega
   subst this;rw[h3];simp
  | succ m ih=>
   intro j hj;rw[Cq,List.range'_succ,List.all_cons];cases hok:ok j with
   | true=>rw[h1 j (by omega) hok];simp only[Bool.true_and];exact ih (j+1) (by omega)
   | false=>rw[h2 j (by omega) hok];simp
 have:=key n 0 (by omega);rw[this,List.range_eq_range']
theorem Bt {α:Type}(xs:List α)(p:α->Bool)(ok:Nat->Bool)(h:∀k (hk:k<xs.length),ok k=p xs[k]):(List.range xs.length).all ok=xs.all p:=by
 rw[Bool.eq_iff_iff,List.all_eq_true,List.all_eq_true]
 constructor
 ·intro h1 x hx;obtain⟨k,hk,rfl⟩:=List.getElem_of_mem hx;rw[<-h k hk];exact h1 k (List.mem_range.2 hk)
 ·intro h1 k hk;have hk:=List.mem_range.1 hk;rw[h k hk];exact h1 _ (List.getElem_mem hk)
theorem Ae6 {σ ω:Type}{f:σ->Option (σ⊕ω)}(n:Nat)(S:Nat->σ)(bad:Nat->Bool)(res:Nat->ω)(good:ω)(h1:∀k,k<n->bad k=false->f (S k)=some (.inl (S (k+1))))(h2:∀k,k<n->bad k=true->f (S k)=some (.inr (res k)))(h3:f (S n)=some (.inr good)):
 loop f (S 0)=some (match (List.range n).find? bad with | some k=>res k | none=>good):=by
 have key:∀(m j:Nat),j+m=n->loop f (S j)=some (match (List.range' j m).find? bad with | some k=>res k | none=>good):=by
  intro m
  induction m with
  | zero=>
   intro j hj;rw[Cq];have:j=n:=by omega
   subst this;rw[h3];simp
  | succ m ih=>
   intro j hj;rw[Cq,List.range'_succ,List.find?_cons];cases hok:bad j with
   | false=>rw[h1 j (by omega) hok];exact ih (j+1) (by omega)
   | true=>rw[h2 j (by omega) hok]
 have:=key n 0 (by omega);rw[this,List.range_eq_range']
theorem Bu {α:Type}(xs:List α)(k:Nat)(h:k<xs.length):xs.take (k+1)=xs.take k++[xs[k]]:=(List.take_append_getElem h).symm
end Go.Pf
/-
  Own work. Plain laws of the small functions of the laws' file (lists of ints compared, marked, held).
-/
namespace Go.Pf
open Go Go.Pu
def An3 (k:Int)(n:Nat):List Int:=(List.range n).map fun(j:Nat)=>k+(j:Int)
end Go.Pf
/-
  Own work. The device's functions, plainly.
-/
namespace Go.Pf
open Go Go.Pu
theorem Co (x a b:Int):Bb (x,(a,b))=some (decide (a<=x/\x<=b)):=by
 unfold Bb;dsimp only;by_cases h:a<=x
 ·rw[dt h,cond_true];by_cases h2:x<=b
  ·rw[dt h2,dt ⟨h,h2⟩]
  ·rw[df h2,df (fun e=>h2 e.2)]
 ·rw[df h,cond_false,df (fun e=>h e.1)]
theorem B4 (x a b:Int):A1 (x,(a,b))=some (decide (a<=x/\x<=b)):=Co x a b
def DOk (d:Int×(Int×(Int×Int))):Prop:=(3<=d.1/\d.1<=6)/\(3<=d.2.1/\d.2.1<=6)/\(1<=d.2.2.1/\d.2.2.1<=4)/\(d.2.2.2= -1\/(1<=d.2.2.2/\d.2.2.2<=d.1 - 2))
instance (d:Int×(Int×(Int×Int))):Decidable (DOk d):=by unfold DOk;exact inferInstance
theorem F7 (d:Int×(Int×(Int×Int))):Cm d=some (decide (DOk d)):=by
 obtain⟨W,H,T,S⟩:=d;unfold Cm DOk;simp only[Co,Aa];by_cases h1:3<=W/\W<=6
 ·by_cases h2:3<=H/\H<=6
  ·by_cases h3:1<=T/\T<=4
   ·by_cases h4:S= -1
    ·simp[h1,h2,h3,h4]
    ·rw[Aj (by omega)];simp[h1,h2,h3,h4]
   ·simp[h1,h2,h3]
  ·simp[h1,h2]
 ·simp[h1]
theorem Io (d:Int×(Int×(Int×Int))):Dg d=some (decide (DOk d)):=F7 d
theorem By {a b:Int}(ha:3<=a/\a<=6)(hb:3<=b/\b<=6):9<=a*b/\a*b<=36:=by
 have:a=3\/a=4\/a=5\/a=6:=by omega
 rcases this with rfl | rfl | rfl | rfl<;>omega
theorem Bx {a b:Int}(ha:0<=a)(hb:0<b):Dd a b=some (a % b):=by
 unfold Dd;rw[if_neg (by omega),Int.tmod_eq_emod_of_nonneg ha]
theorem Ez {a b:Int}(ha:0<=a)(ha2:a<=9223372036854775807)(hb:0<b):E5 .i64 a b=some (a/b):=by
 have h1:0<=a/b:=Int.ediv_nonneg ha (by omega);have h2:a/b<=a:=Int.ediv_le_self _ ha;unfold E5;rw[if_neg (by omega),Int.tdiv_eq_ediv_of_nonneg ha,Aj (by omega)]
def tkp (d:Int×(Int×(Int×Int)))(t:Int):Int:=
 if t % d.1=0\/t/d.1=0\/t % d.1=d.1 - 1\/t/d.1=d.2.1 - 1 then 0 else if t % d.1=d.2.2.2 then 2 else 1
theorem Ab1 (d:Int×(Int×(Int×Int)))(t:Int):0<=tkp d t:=by
 unfold tkp;split;omega;split<;>omega
def tk (d:Int×(Int×(Int×Int)))(t:Int):Int:=if DOk d/\0<=t/\t<d.1*d.2.1 then tkp d t else -1
theorem Ql (d:Int×(Int×(Int×Int)))(t:Int)(ht:t<=9223372036854775807):Ce (d,t)=some (tk d t):=by
 unfold Ce tk;simp only[F7,Aa];by_cases h:DOk d
 ·have hd:=h;obtain⟨W,H,T,S⟩:=d;obtain⟨h1,h2,h3,h4⟩:=h;simp only at h1 h2 h3 h4;have hm:=By h1 h2;simp only[dt hd,Bool.not_true,cond_false];rw[Aj (by omega)];by_cases h0:t<0
  ·rw[dt h0,cond_true,if_neg (by omega)]
  ·rw[df h0,cond_false];by_cases h5:W*H<=t
   ·rw[dt h5,cond_true,if_neg (by omega)]
   ·rw[df h5,cond_false,if_pos ⟨hd,by omega,by omega⟩,Bx (by omega) (by omega),Ez (by omega) ht (by omega)];simp only[Aa];rw[Aj (by omega),Aj (by omega)];unfold tkp;simp only;by_cases q1:t % W=0
    ·simp[q1]
    by_cases q2:t/W=0
    ·simp[q1,q2]
    by_cases q3:t % W=W - 1
    ·rw[df q1,cond_false,df q2,cond_false,dt q3,cond_true,if_pos (by simp[q3])]
    by_cases q4:t/W=H - 1
    ·rw[df q1,cond_false,df q2,cond_false,df q3,cond_false,dt q4,cond_true,if_pos (by simp[q4])]
    rw[df q1,cond_false,df q2,cond_false,df q3,cond_false,df q4,cond_false,if_neg (by simp[q1,q2,q3,q4])];by_cases q5:t % W=S
    ·rw[dt q5,cond_true,if_pos q5]
    ·rw[df q5,cond_false,if_neg q5]
 ·simp[h]
theorem Of (d:Int×(Int×(Int×Int)))(t:Int)(h:DOk d)(ht0:0<=t)(ht:t<=9223372036854775807):E8 (d,t)=some (tkp d t):=by
 unfold E8;obtain⟨W,H,T,S⟩:=d;obtain⟨h1,h2,h3,h4⟩:=h;simp only at h1 h2 h3 h4;dsimp only;rw[Bx (by omega) (by omega),Ez (by omega) ht (by omega)];simp only[Aa];rw[Aj (by omega),Aj (by omega)];unfold tkp;simp only;by_cases q1:t % W=0
 ·simp[q1]
 by_cases q3:t % W=W - 1
 ·rw[df q1,cond_false,dt q3,cond_true,if_pos (by simp[q3])]
 by_cases q2:t/W=0
 ·rw[df q1,cond_false,df q3,cond_false,dt q2,cond_true,if_pos (by simp[q2])]
 by_cases q4:t/W=H - 1
 ·rw[df q1,cond_false,df q3,cond_false,df q2,cond_false,dt q4,cond_true,if_pos (by simp[q4])]
 rw[df q1,cond_false,df q3,cond_false,df q2,cond_false,df q4,cond_false,if_neg (by simp[q1,q2,q3,q4])];by_cases q5:t % W=S
 ·rw[dt q5,cond_true,if_pos q5]
 ·rw[df q5,cond_false,if_neg q5]
theorem Sh (d:Int×(Int×(Int×Int)))(t:Int):I1 (d,t)=some (decide (DOk d/\0<=t/\t<d.1*d.2.1)):=by
 unfold I1;simp only[Io,Aa];by_cases h:DOk d
 ·have hm:=By h.1 h.2.1;simp only[dt h,cond_true];rw[Aj (z:=d.1*d.2.1) (by omega),Aj (by omega),B4,Aa]
  congr 1
  by_cases q:0<=t/\t<d.1*d.2.1
  ·rw[dt (by omega),dt ⟨h,q⟩]
  ·rw[df (by omega),df (fun e=>q e.2)]
 ·simp[h]
def per (d:Int×(Int×(Int×Int))):Int:=7+4*d.2.2.1
theorem Hb {d:Int×(Int×(Int×Int))}(h:DOk d):Cc d=some (per d):=by
 unfold Cc per;have:=h.2.2.1;dsimp only;rw[Aj (z:=4*d.2.2.1) (by omega),Aj (by omega)]
theorem Si {d:Int×(Int×(Int×Int))}(h:DOk d):Eu d=some (per d):=Hb h
def Aq (d:Int×(Int×(Int×Int))):Int:=d.1*d.2.1*per d
theorem Dk {d:Int×(Int×(Int×Int))}(h:DOk d):11<=per d/\per d<=23:=by
 have:=h.2.2.1;unfold per;omega
theorem Bo {d:Int×(Int×(Int×Int))}(h:DOk d):99<=Aq d/\Aq d<=828:=by
 have hm:=By h.1 h.2.1;have hp:=Dk h;unfold Aq;generalize d.1*d.2.1=n at*;generalize per d=p at*;have h1:n*p<=36*23:=Int.mul_le_mul hm.2 hp.2 (by omega) (by omega);have h2:9*11<=n*p:=Int.mul_le_mul hm.1 hp.1 (by omega) (by omega);omega
theorem Dq (d:Int×(Int×(Int×Int))):C8 d=some (if DOk d then Aq d else 0):=by
 unfold C8;simp only[F7,Aa];by_cases h:DOk d
 ·have hm:=By h.1 h.2.1;have hn:=Bo h;rw[dt h,if_pos h];simp only[Bool.not_true,cond_false,Hb h,Aa];rw[Aj (z:=d.1*d.2.1) (by omega)];unfold Aq at*;rw[Aj (by omega)]
 ·simp[h]
theorem Dr {d:Int×(Int×(Int×Int))}(h:DOk d):B3 d=some (Aq d):=by
 unfold B3;have hm:=By h.1 h.2.1;have hn:=Bo h;simp only[Si h,Aa];rw[Aj (z:=d.1*d.2.1) (by omega)];unfold Aq at*;rw[Aj (by omega)]
def inP (k:Int):Int:=if k=0 then 1 else if k=1 then 5 else if k=2 then 4 else 0
theorem Sj (k:Int):K1 k=some (inP k):=by
 unfold K1 inP;by_cases h0:k=0
 ·simp[h0]
 ·by_cases h1:k=1
  ·simp[h1]
  ·by_cases h2:k=2
   ·simp[h2]
   ·simp[h0,h1,h2]
theorem Y2 (k:Int):Nm k=some (inP k):=Sj k
def Q5 (k:Int):Int:=if k=0 then 1 else if k=1 then 2 else if k=2 then 1 else 0
theorem Lx (k:Int):F4 k=some (Q5 k):=by
 unfold F4 Q5;by_cases h0:k=0
 ·simp[h0]
 ·by_cases h1:k=1
  ·simp[h1]
  ·by_cases h2:k=2
   ·simp[h2]
   ·simp[h0,h1,h2]
theorem Wl (k:Int):Lo k=some (Q5 k):=Lx k
end Go.Pf
/-
  Own work. Draws, plainly: the cursor.
-/
namespace Go.Pf
open Go Go.Pu
set_option linter.unusedVariables false
theorem An4 (x:Int){m:Nat}(hm:m<4611686018427387904):0<=Uk .i64 x (m:Int)/\Uk .i64 x (m:Int)<=(m:Int):=by
 unfold Uk;have h0:(BitVec.ofInt 64 x &&& BitVec.ofInt 64 (m:Int)).toNat<=m:=by
  rw[BitVec.toNat_and];refine Nat.le_trans Nat.and_le_right ?_
  rw[BitVec.toNat_ofInt];have:((m:Int) % ((2 ^ 64:Nat):Int)).toNat=m:=by omega
  omega
 show 0<=wrap .i64 ((BitVec.ofInt 64 x &&& BitVec.ofInt 64 (m:Int)).toNat:Int)/\wrap .i64 ((BitVec.ofInt 64 x &&& BitVec.ofInt 64 (m:Int)).toNat:Int)<=(m:Int);rw[Aj (by omega)];omega
theorem Ae7 (a:Int){b:Int}(h:0<=b/\b<64):∃z,Dv false .i64 a b=some z:=by
 unfold Dv;rw[if_pos (show 0<=b/\b<((IntKind.i64).bits:Int)from h)];exact⟨_,rfl⟩
abbrev Cur:=Int×Int
def B5 (b:List Int)(c:Cur):Prop:=0<=c.1/\c.1<=(b.length:Int)
def M2 (b:List Int):Prop:=b.length<=1048576
theorem Wm {b:List Int}{c:Cur}(hb:M2 b)(hc:B5 b c):∃x c',Ey (b,c)=some (x,c')/\B5 b c'∧0<=x/\x<=255:=by
 unfold M2 at hb;unfold B5 at hc;unfold Ey;dsimp only;obtain⟨z1,h1⟩:=Ae7 (wrap .i64 (wrap .i64 (c.2*6364136223846793005)+1442695040888963407)) (b:=33) (by omega);obtain⟨z2,h2⟩:=Ae7 (wrap .i64 (wrap .i64 (c.2*6364136223846793005)+1442695040888963407)) (b:=45) (by omega);rw[h1,h2];simp only[Aa];by_cases q:c.1<(b.length:Int)
 ·rw[dt q,cond_true,Bq (by omega) q];simp only[Aa];refine⟨_,_,rfl,?_,?_⟩
  ·rw[Aj (by omega)];exact⟨by simp only;omega,by simp only;omega⟩
  ·exact An4 _ (m:=255) (by omega)
 ·rw[df q,cond_false];exact⟨_,_,rfl,hc,An4 _ (m:=255) (by omega)⟩
theorem An5 {a n:Int}(h0:0<=a)(hn:0<n):∃z,Dd a n=some z/\0<=z/\z<n:=by
 refine⟨a % n,Bx h0 hn,Int.emod_nonneg _ (by omega),Int.emod_lt_of_pos _ hn⟩
theorem Wn {b:List Int}{c:Cur}(hb:M2 b)(hc:B5 b c)(n:Int):∃x c',Ap ((b,c),n)=some (x,c')/\B5 b c'∧(n<=0->x=0)/\(0<n->0<=x/\x<n):=by
 unfold Ap;dsimp only;by_cases h1:n<=0
 ·rw[dt h1,cond_true];exact⟨0,c,rfl,hc,fun _=>rfl,fun h=>by omega⟩
 rw[df h1,cond_false];by_cases h2:n<=256
 ·rw[dt h2,cond_true];obtain⟨x,c1,e1,k1,x0,x1⟩:=Wm hb hc;rw[e1];simp only[Aa];obtain⟨z,e2,z0,z1⟩:=An5 x0 (show 0<n by omega);rw[e2];exact⟨z,c1,rfl,k1,fun h=>by omega,fun _=>⟨z0,z1⟩⟩
 ·rw[df h2,cond_false];obtain⟨x,c1,e1,k1,x0,x1⟩:=Wm hb hc;obtain⟨y,c2,e2,k2,y0,y1⟩:=Wm hb k1;obtain⟨u,c3,e3,k3,u0,u1⟩:=Wm hb k2;obtain⟨w,c4,e4,k4,w0,w1⟩:=Wm hb k3;rw[e1];simp only[Aa];rw[e2];simp only[Aa];rw[e3];simp only[Aa];rw[e4];simp only[Aa];rw[Aj (z:=x*16777216) (by omega),Aj (z:=y*65536) (by omega),Aj (z:=x*16777216+y*65536) (by omega),Aj (z:=u*256) (by omega),Aj (z:=x*16777216+y*65536+u*256) (by omega),Aj (z:=x*16777216+y*65536+u*256+w) (by omega)];obtain⟨z,e5,z0,z1⟩:=An5 (show 0<=x*16777216+y*65536+u*256+w by omega) (show 0<n by omega);rw[e5];exact⟨z,c4,rfl,k4,fun h=>by omega,fun _=>⟨z0,z1⟩⟩
theorem An6 {b:List Int}{c:Cur}(hb:M2 b)(hc:B5 b c)(n:Int):∃x c',D0 ((b,c),n)=some (x,c')/\B5 b c' :=by
 unfold D0;obtain⟨x,c1,e1,k1,_⟩:=Wn hb hc n;rw[e1];exact⟨_,c1,rfl,k1⟩
theorem pick_ok {b:List Int}{c:Cur}(hb:M2 b)(hc:B5 b c){l:List Int}(hl:0<l.length):∃x c',Cf ((b,c),l)=some (x,c')/\B5 b c'∧x∈l:=by
 unfold Cf;dsimp only;obtain⟨x,c1,e1,k1,_,x1⟩:=Wn hb hc (l.length:Int);have x1:=x1 (by omega);rw[e1];simp only[Aa];obtain⟨n,rfl⟩:∃n:Nat,x=(n:Int):=⟨x.toNat,by omega⟩;have hn:n<l.length:=by omega
 rw[Ar hn];exact⟨_,c1,rfl,k1,List.getElem_mem hn⟩
theorem Ayf {b:List Int}(hb:M2 b):∃c,Np b=some c/\B5 b c:=by
 unfold M2 at hb;have key:∃o:Int⊕Cur,Pu.loop (fun(v3:(Int×Int))=>
  let v4:Int:=((b).length:Int)
  let v5:Bool:=decide (v3.2<v4)
  bif v5 then(
   let v6:Bool:=decide (v3.2<4000)
   bif v6 then(
    let v7:Int:=wrap .i64 (v3.1*131)
    (Ak 0 b v3.2).bind fun v8=>
    let v9:Int:=wrap .i64 v8
    let v10:Int:=wrap .i64 (v7+v9)
    let v11:Int:=wrap .i64 (v10+7)
    let v12:Int:=Uk .i64 v11 1073741823
    let v13:Int:=wrap .i64 (v3.2+1)
    some (.inl (v12,v13)))else
   Option.map Sum.inr (
    some (.inl v3.1)))else
  Option.map Sum.inr (
   some (.inl v3.1))) (wrap .i64 (33117+(b.length:Int)),0)=some o/\∃z,o= .inl z:=by
  refine B6 (fun s:Int×Int=>0<=s.2/\s.2<=(b.length:Int)) (fun o:Int⊕Cur=>∃z:Int,o= .inl z) (fun s=>((b.length:Int) - s.2).toNat) (fun s hs=> ?_) _ ⟨by simp,by simp⟩;obtain⟨h,i⟩:=s;obtain⟨i0,i1⟩:=hs;simp only at i0 i1;dsimp only;by_cases h1:i<(b.length:Int)
  ·rw[dt h1,cond_true];by_cases h2:i<4000
   ·left
    rw[dt h2,cond_true,Bq i0 h1];simp only[Aa];refine⟨_,rfl,⟨?_,?_⟩,?_⟩
    ·simp only;rw[Aj (by omega)];omega
    ·simp only;rw[Aj (by omega)];omega
    ·simp only;rw[Aj (by omega)];omega
   ·right
    rw[df h2,cond_false];exact⟨_,rfl,_,rfl⟩
  ·right
   rw[df h1,cond_false];exact⟨_,rfl,_,rfl⟩
 obtain⟨o,h1,z,rfl⟩:=key;unfold Np;dsimp only at h1 ⊢;rw[h1];exact⟨(0,z),rfl,by unfold B5;simp⟩
theorem Ayg (b:List Int):Ab0 b=some (decide (1048576<(b.length:Int))):=rfl
end Go.Pf
/-
  Own work. Results that are there and have a property: no panic, and an end.
-/
namespace Go.Pf
open Go Go.Pu
set_option linter.unusedVariables false
def Tot {α:Type}(X:Option α)(Q:α->Prop):Prop:=∃o,X=some o/\Q o
def Q6 {α β:Type}(A:α->Prop)(Q:β->Prop):α⊕β->Prop
 | .inl a=>A a
 | .inr b=>Q b
section
variable {α β σ ω:Type}
theorem Tot.ret {a:α}{Q:α->Prop}(h:Q a):Tot (some a) Q:=⟨a,rfl,h⟩
theorem Tot.bind {X:Option α}{k:α->Option β}{A:α->Prop}{Q:β->Prop}(h:Tot X A)(hk:∀a,A a->Tot (k a) Q):Tot (X.bind k) Q:=by
 obtain⟨o,h1,h2⟩:=h;rw[h1];exact hk o h2
theorem Tot.bindEq {X:Option α}{k:α->Option β}{a:α}{Q:β->Prop}(h:X=some a)(hk:Tot (k a) Q):Tot (X.bind k) Q:=by rw[h];exact hk
theorem Tot.ite {c:Bool}{a b:Option α}{Q:α->Prop}(h1:c=true->Tot a Q)(h2:c=false->Tot b Q):Tot (bif c then a else b) Q:=by
 cases c with
 | true=>exact h1 rfl
 | false=>exact h2 rfl
theorem Tot.nite {c:Bool}{a b:Option α}{Q:α->Prop}(h1:c=false->Tot a Q)(h2:c=true->Tot b Q):Tot (bif !c then a else b) Q:=by
 cases c with
 | true=>exact h2 rfl
 | false=>exact h1 rfl
theorem Tot.dite {p:Prop} [Decidable p] {a b:Option α}{Q:α->Prop}(h1:p->Tot a Q)(h2:¬p->Tot b Q):Tot (bif decide p then a else b) Q:=by
 by_cases h:p
 ·rw[dt h];exact h1 h
 ·rw[df h];exact h2 h
theorem Tot.ndite {p:Prop} [Decidable p] {a b:Option α}{Q:α->Prop}(h1:¬p->Tot a Q)(h2:p->Tot b Q):Tot (bif !decide p then a else b) Q:=by
 by_cases h:p
 ·rw[dt h];exact h2 h
 ·rw[df h];exact h1 h
theorem Tot.exit {X:Option β}{A:α->Prop}{Q:β->Prop}(h:Tot X Q):Tot (Option.map (Sum.inr:β->α⊕β) X) (Q6 A Q):=by
 obtain⟨o,h1,h2⟩:=h;rw[h1];exact⟨_,rfl,h2⟩
theorem Tot.next {s:σ}{A:σ->Prop}{Q:ω->Prop}(h:A s):Tot (some (Sum.inl s:σ⊕ω)) (Q6 A Q):=⟨_,rfl,h⟩
theorem Tot.join {X:Option (α⊕β)}{k:α->Option β}{A:α->Prop}{Q:β->Prop}(h:Tot X (Q6 A Q))(hk:∀a,A a->Tot (k a) Q):Tot (B1 X k) Q:=by
 obtain⟨o,h1,h2⟩:=h;rw[h1];cases o with
 | inl a=>exact hk a h2
 | inr b=>exact⟨b,rfl,h2⟩
theorem Tot.lp {f:σ->Option (σ⊕ω)}(I:σ->Prop)(μ:σ->Nat){Q:ω->Prop}{s0:σ}(h0:I s0)(h:∀s,I s->Tot (f s) (Q6 (fun s' =>I s'∧μ s' <μ s) Q)):Tot (loop f s0) Q:=by
 refine B6 I Q μ (fun s hs=> ?_) s0 h0;obtain⟨o,h1,h2⟩:=h s hs;cases o with
 | inl s' =>exact .inl ⟨s',h1,h2.1,h2.2⟩
 | inr o=>exact .inr ⟨o,h1,h2⟩
theorem Tot.get {d:α}{xs:List α}{i:Int}{k:α->Option β}{Q:β->Prop}(h0:0<=i)(h1:i<(xs.length:Int))(hk:∀y,y=xs.getD i.toNat d->y∈xs->Tot (k y) Q):Tot ((Ak d xs i).bind k) Q:=by
 rw[Bq h0 h1];refine hk _ rfl ?_
 rw[List.getD,List.getElem?_eq_getElem (by omega)];exact List.getElem_mem _
theorem Tot.gin {n:Nat}{i:Int}{k:Unit->Option β}{Q:β->Prop}(h0:0<=i)(h1:i<(n:Int))(hk:Tot (k ()) Q):Tot ((gin n i).bind k) Q:=by
 unfold Pu.gin;rw[if_pos ⟨h0,h1⟩];exact hk
theorem Tot.app {b:Nat}{xs ys:List α}{k:List α->Option β}{Q:β->Prop}(h:xs.length+ys.length<=1000000000)(hb:b<=100)(hk:Tot (k (xs++ys)) Q):Tot ((A3 b xs ys).bind k) Q:=by
 rw[Br (by
  have:(xs.length+ys.length)*b<=1000000000*100:=Nat.mul_le_mul h hb;omega) (by omega)]
 exact hk
theorem Tot.make {b:Nat}{d:α}{n:Int}{k:List α->Option β}{Q:β->Prop}(h0:0<=n)(h1:n<=1000000)(hb:b<=100)(hk:Tot (k (List.replicate n.toNat d)) Q):Tot ((Ct b d n).bind k) Q:=by
 have e:n=(n.toNat:Int):=by omega
 rw[e,Bz (by
  have:n.toNat*b<=1000000*100:=Nat.mul_le_mul (by omega) hb;omega) (by omega)]
 exact hk
theorem Tot.div2 {a:Int}{k:Int->Option β}{Q:β->Prop}(h0:0<=a)(h1:a<=9223372036854775807)(hk:Tot (k (a/2)) Q):Tot ((E5 .i64 a 2).bind k) Q:=by
 rw[Ez h0 h1 (by omega)];exact hk
theorem Tot.rem {a b:Int}{k:Int->Option β}{Q:β->Prop}(h0:0<=a)(hb:0<b)(hk:Tot (k (a % b)) Q):Tot ((Dd a b).bind k) Q:=by
 rw[Bx h0 hb];exact hk
theorem Tot.below {b:List Int}{c:Cur}{n:Int}{k:Int×Cur->Option β}{Q:β->Prop}(hb:M2 b)(hc:B5 b c)(hk:∀x c',B5 b c'→(n<=0->x=0)->(0<n->0<=x/\x<n)->Tot (k (x,c')) Q):Tot ((Ap ((b,c),n)).bind k) Q:=by
 obtain⟨x,c',e,k1,k2,k3⟩:=Wn hb hc n;rw[e];exact hk x c' k1 k2 k3
theorem Tot.once {b:List Int}{c:Cur}{n:Int}{k:Bool×Cur->Option β}{Q:β->Prop}(hb:M2 b)(hc:B5 b c)(hk:∀x c',B5 b c'→Tot (k (x,c')) Q):Tot ((D0 ((b,c),n)).bind k) Q:=by
 obtain⟨x,c',e,k1⟩:=An6 hb hc n;rw[e];exact hk x c' k1
theorem Tot.pick {b:List Int}{c:Cur}{l:List Int}{k:Int×Cur->Option β}{Q:β->Prop}(hb:M2 b)(hc:B5 b c)(hl:0<l.length)(hk:∀x c',B5 b c'→x∈l->Tot (k (x,c')) Q):Tot ((Cf ((b,c),l)).bind k) Q:=by
 obtain⟨x,c',e,k1,k2⟩:=pick_ok hb hc hl;rw[e];exact hk x c' k1 k2
end
theorem Bh {α:Type}(xs:List α)(i:Int)(x:α):(A8 xs i x).length=xs.length:=by unfold A8;rw[List.length_set]
theorem Sk {α:Type}{xs:List α}{i:Int}{x y:α}(h:y∈A8 xs i x):y∈xs\/y=x:=List.mem_or_eq_of_mem_set h
theorem Ab2 {α:Type}{xs:List α}{n:Nat}{d:α}(h:n<xs.length):xs.getD n d∈xs:=by
 rw[List.getD,List.getElem?_eq_getElem h];exact List.getElem_mem h
end Go.Pf
/-
  Own work. Draws, plainly: nets; which are valid; roots; copies.
-/
namespace Go.Pf
open Go Go.Pu
set_option linter.unusedVariables false
theorem Tu (z:Int): -9223372036854775808<=wrap .i64 z/\wrap .i64 z<=9223372036854775807:=by
 unfold wrap;have h:IntKind.wrap .i64 z=(z+9223372036854775808) % 18446744073709551616 - 9223372036854775808:=by
  rw[IntKind.wrap_i64]
 rw[h];omega
abbrev Asu:=Int×(Int×List Int)
abbrev A4z:=Int×Int
abbrev Eb:=Int×(List Asu×(List A4z×List Int))
def I64 (x:Int):Prop:= -9223372036854775808<=x/\x<=9223372036854775807
structure NB (n:Eb):Prop where
 sq:n.2.1.length<=1000
 ins:∀s∈n.2.1,s.2.2.length<=1000/\∀x∈s.2.2,I64 x
 an:n.2.2.1.length<=1000
 ands:∀a∈n.2.2.1,I64 a.1/\I64 a.2
 ot:n.2.2.2.length<=1000
 outs:∀x∈n.2.2.2,I64 x
def Bc (n:Eb):Int:=1+n.1+(n.2.1.length:Int)
def Av (n:Eb):Int:=Bc n+(n.2.2.1.length:Int)
def Lit (x m:Int):Prop:=0<=x/\x<2*m
structure NOk (n:Eb):Prop where
 inp:0<=n.1/\n.1<=20
 sq:n.2.1.length<=12
 an:n.2.2.1.length<=300
 ot:n.2.2.2.length<=16
 ins:∀s∈n.2.1,s.2.2.length<=4/\∀x∈s.2.2,Lit x (Av n)
 outs:∀x∈n.2.2.2,Lit x (Av n)
 ands:∀i,i<n.2.2.1.length->Lit (n.2.2.1.getD i (0,0)).1 (Bc n+(i:Int))/\Lit (n.2.2.1.getD i (0,0)).2 (Bc n+(i:Int))
def Lg (n:Eb):Prop:=(0<=n.1/\n.1<=20)/\n.2.1.length<=12/\n.2.2.1.length<=300/\n.2.2.2.length<=16
instance (n:Eb):Decidable (Lg n):=by unfold Lg;infer_instance
theorem NOk.caps {n:Eb}(h:NOk n):Lg n:=⟨h.inp,h.sq,h.an,h.ot⟩
theorem Qm (n:Eb):A9 n=some (if Lg n then Av n else 0):=by
 unfold A9;dsimp only;rw[Co];simp only[Aa];by_cases h1:0<=n.1/\n.1<=20
 rotate_left
 ·rw[df h1,if_neg (fun e:Lg n=>h1 e.1)];rfl
 rw[dt h1];simp only[Bool.not_true,cond_false];by_cases h2:n.2.1.length<=12
 rotate_left
 ·rw[dt (by omega),if_neg (fun e:Lg n=>h2 e.2.1)];rfl
 rw[df (by omega),cond_false];by_cases h3:n.2.2.1.length<=300
 rotate_left
 ·rw[dt (by omega),if_neg (fun e:Lg n=>h3 e.2.2.1)];rfl
 rw[df (by omega),cond_false];by_cases h4:n.2.2.2.length<=16
 rotate_left
 ·rw[dt (by omega),if_neg (fun e:Lg n=>h4 e.2.2.2)];rfl
 rw[df (by omega),cond_false,if_pos (show Lg n from⟨h1,h2,h3,h4⟩),Aj (z:=1+n.1) (by omega),Aj (z:=1+n.1+(n.2.1.length:Int)) (by omega),Aj (by omega)];rfl
theorem Bi {n:Eb}(h:NOk n):A9 n=some (Av n):=by rw[Qm,if_pos h.caps]
theorem Ab3 {n:Eb}(h:Lg n):A7 n=some (Bc n):=by
 unfold A7;obtain⟨h1,h2,_⟩:=h;dsimp only;rw[Aj (z:=1+n.1) (by omega),Aj (by omega)];rfl
theorem Cj {n:Eb}(h:NOk n):A7 n=some (Bc n):=Ab3 h.caps
theorem Dl {n:Eb}(h:Lg n):(1<=Bc n/\Bc n<=33)/\(1<=Av n/\Av n<=333)/\Av n=Bc n+(n.2.2.1.length:Int):=by
 obtain⟨h1,h2,h3,_⟩:=h;unfold Av Bc;omega
theorem Ab4 {x m:Int}(hx:I64 x):F0 (x,m)=some (decide (0<=x/\x/2<m)):=by
 unfold F0;dsimp only;unfold I64 at hx;by_cases h:0<=x
 ·rw[dt h,cond_true,Ez h hx.2 (by omega)];simp only[Aa];by_cases q:x/2<m
  ·rw[dt q,dt ⟨h,q⟩]
  ·rw[df q,df (fun e=>q e.2)]
 ·rw[df h,df (fun e=>h e.1)];rfl
def Km (n:Eb)(k:Nat):List Int:=n.2.2.2++(n.2.1.take k).flatMap (·.2.2)
def D2 (n:Eb):List Int:=Km n n.2.1.length
theorem Asv {xs:List Asu}{K:Nat}(h:∀s∈xs,s.2.2.length<=K):(xs.flatMap (·.2.2)).length<=xs.length*K:=by
 induction xs with
 | nil=>simp
 | cons x xs ih=>
  have h1:=h x (by simp);have h2:=ih (fun s hs=>h s (by simp[hs]));rw[List.flatMap_cons,Ad,Ab,Nat.succ_mul];omega
theorem O6 {n:Eb}(h:NB n)(k:Nat):(Km n k).length<=1001000:=by
 unfold Km;have h1:=Asv (xs:=n.2.1.take k) (K:=1000) (fun s hs=>(h.ins s (List.mem_of_mem_take hs)).1);have h2:(n.2.1.take k).length<=1000:=by rw[List.length_take];have:=h.sq;omega
 have h3:(n.2.1.take k).length*1000<=1000*1000:=Nat.mul_le_mul_right _ h2;have h4:=h.ot;rw[Ad];omega
theorem Wo {n:Eb}(h:NB n):Gp n=some (D2 n):=by
 unfold Gp;dsimp only;have ho:=h.ot;rw[Br (by simp only[Ac];omega) (by simp only[Ac];omega)];simp only[Aa,List.nil_append];have e0:((0:Int),n.2.2.2)=(fun k:Nat=>((k:Int),Km n k)) 0:=by simp[Km]
 rw[e0];have hs:=h.sq;refine Ao n.2.1.length (fun k=>((k:Int),Km n k)) (fun k hk=> ?_) ?_
 ·have h1:=O6 h k;have h2:=(h.ins n.2.1[k] (List.getElem_mem hk)).1
  try dsimp only
  rw[dt (by omega),cond_true,Ar hk];simp only[Aa];rw[Br (by omega) (by omega)];simp only[Aa];rw[Aj (by omega)];have e:Km n (k+1)=Km n k++n.2.1[k].2.2:=by
   unfold Km;rw[Bu n.2.1 k hk,List.flatMap_append];simp
  rw[e];rfl
 ·try dsimp only
  rw[df (by omega),cond_false];rfl
theorem L9 {n:Eb}{x:Int}:x∈D2 n↔x∈n.2.2.2\/∃s∈n.2.1,x∈s.2.2:=by
 unfold D2 Km;rw[List.take_length,List.mem_append,List.mem_flatMap]
theorem Ab5 {α:Type}{xs:List α}{P:α->Prop}{i:Int}(h0:0<=i)(hi:i<(xs.length:Int)){d:α}(h:∀x∈xs.take i.toNat,P x)(hy:P (xs.getD i.toNat d)):∀x∈xs.take (i+1).toNat,P x:=fun x hx=>by
 have e:(i+1).toNat=i.toNat+1:=by omega
 rw[e,Bu xs i.toNat (by omega),List.mem_append,List.mem_singleton]at hx;rcases hx with hx | rfl
 ·exact h x hx
 ·rw[List.getD,List.getElem?_eq_getElem (by omega)]at hy;exact hy
theorem I3 {n:Eb}(hb:NB n):Tot (C3 n) (fun b=>b=true->NOk n):=by
 unfold C3;dsimp only;rw[Qm];simp only[Aa];by_cases hc:Lg n
 rotate_left
 ·rw[if_neg hc,dt rfl,cond_true];exact Tot.ret (fun h=>by cases h)
 obtain⟨hf,hn,hfn⟩:=Dl hc;rw[if_pos hc,df (by omega),cond_false];have hsq:=hc.2.1;have han:=hc.2.2.1;have fals:∀{α:Type} {A:α->Prop},Tot (Option.map (Sum.inr:Bool->α⊕Bool) (some false)) (Q6 A (fun b=>b=true->NOk n)):=Tot.exit (Tot.ret (fun h=>by cases h));refine Tot.lp (fun i=>(0<=i/\i<=(n.2.1.length:Int))/\∀s∈n.2.1.take i.toNat,s.2.2.length<=4) (fun i=>((n.2.1.length:Int) - i).toNat) ⟨⟨by omega,by omega⟩,fun s hs=>by simp at hs⟩ (fun i hi=> ?_);obtain⟨⟨i0,i1⟩,hi2⟩:=hi;refine Tot.dite (fun h1=> ?_) (fun h1=> ?_)
 ·refine Tot.get i0 h1 fun s hs hm=> ?_
  have step:s.2.2.length<=4->Tot (some (Sum.inl (wrap .i64 (i+1)):Int⊕Bool)) (Q6 (fun s' =>(((0<=s'∧s'≤(n.2.1.length:Int))/\∀s∈n.2.1.take s'.toNat,s.2.2.length<=4)/\((n.2.1.length:Int) - s').toNat<((n.2.1.length:Int) - i).toNat)) (fun b=>b=true->NOk n)):=fun h4=>by
   rw[Aj (by omega)];exact Tot.next ⟨⟨⟨by omega,by omega⟩,Ab5 i0 h1 hi2 (by rw[<-hs];exact h4)⟩,by omega⟩
  rw[Co];simp only[Aa];rw[Co];simp only[Aa];refine Tot.dite (fun _=> ?_) (fun _=> ?_)
  ·refine Tot.dite (fun _=> ?_) (fun _=> ?_)
   ·refine Tot.dite (fun h4=>step (by omega)) (fun _=> ?_);refine Tot.dite (fun _=> ?_) (fun _=>fals);refine Tot.dite (fun _=> ?_) (fun _=>fals);exact Tot.ndite (fun _=>fals) (fun h4=>step (by omega))
   ·refine Tot.dite (fun _=> ?_) (fun _=>fals);refine Tot.dite (fun _=> ?_) (fun _=>fals);exact Tot.ndite (fun _=>fals) (fun h4=>step (by omega))
  ·refine Tot.dite (fun _=> ?_) (fun _=>fals);refine Tot.dite (fun _=> ?_) (fun _=>fals);exact Tot.ndite (fun _=>fals) (fun h4=>step (by omega))
 refine Tot.exit ?_
 have e1:i.toNat=n.2.1.length:=by omega
 rw[e1,List.take_length]at hi2;rw[Wo hb];simp only[Aa];have hrl:(D2 n).length<=1001000:=O6 hb _;have hri:∀x∈D2 n,I64 x:=fun x hx=>by
  rcases L9.1 hx with h | ⟨s,hs,h⟩
  ·exact hb.outs x h
  ·exact(hb.ins s hs).2 x h
 refine Tot.lp (fun i=>(0<=i/\i<=((D2 n).length:Int))/\∀x∈(D2 n).take i.toNat,Lit x (Av n)) (fun i=>(((D2 n).length:Int) - i).toNat) ⟨⟨by omega,by omega⟩,fun s hs=>by simp at hs⟩ (fun j hj=> ?_);obtain⟨⟨j0,j1⟩,hj2⟩:=hj;refine Tot.dite (fun h2=> ?_) (fun h2=> ?_)
 ·refine Tot.gin j0 h2 (Tot.get j0 h2 fun x hx hm=> ?_);rw[Ab4 (hri x hm)];simp only[Aa];refine Tot.ndite (fun _=>fals) (fun h4=> ?_);rw[Aj (by omega)];exact Tot.next ⟨⟨⟨by omega,by omega⟩,Ab5 j0 h2 hj2 (by rw[<-hx];unfold Lit;omega)⟩,by omega⟩
 refine Tot.exit ?_
 have e2:j.toNat=(D2 n).length:=by omega
 rw[e2,List.take_length]at hj2;refine Tot.lp (fun i=>(0<=i/\i<=(n.2.2.1.length:Int))/\∀k:Nat,(k:Int)<i->Lit (n.2.2.1.getD k (0,0)).1 (Bc n+(k:Int))/\Lit (n.2.2.1.getD k (0,0)).2 (Bc n+(k:Int))) (fun i=>((n.2.2.1.length:Int) - i).toNat) ⟨⟨by omega,by omega⟩,fun k hk=>by omega⟩ (fun k hk=> ?_);obtain⟨⟨k0,k1⟩,hk2⟩:=hk;refine Tot.dite (fun h3=> ?_) (fun h3=> ?_)
 ·refine Tot.get k0 h3 fun a ha hm=> ?_
  have hab:=hb.ands a hm;rw[Ab3 hc];simp only[Aa];rw[Aj (z:=Bc n+k) (by omega),Ab4 hab.1];simp only[Aa];refine Tot.ndite (fun _=>fals) (fun h4=> ?_);refine Tot.get k0 h3 fun a2 ha2 hm2=> ?_
  have ea:a2=a:=by rw[ha,ha2]
  subst ea;rw[Ab4 hab.2];simp only[Aa];refine Tot.ndite (fun _=>fals) (fun h5=> ?_);rw[Aj (z:=k+1) (by omega)];refine Tot.next ⟨⟨⟨by omega,by omega⟩,fun q hq=> ?_⟩,by omega⟩;by_cases c:(q:Int)<k
  ·exact hk2 q c
  ·have e3:k.toNat=q:=by omega
   rw[e3]at ha;rw[<-ha];unfold Lit;have:k=(q:Int):=by omega
   omega
 refine Tot.exit (Tot.ret fun _=> ?_);refine⟨hc.1,hsq,han,hc.2.2.2,fun s hs=>⟨hi2 s hs,fun x hx=>hj2 x (L9.2 (.inr ⟨s,hs,hx⟩))⟩,fun x hx=>hj2 x (L9.2 (.inl hx)),fun q hq=>hk2 q (by omega)⟩
end Go.Pf
/-
  Own work. Draws, plainly: copies of nets, hashing, sweeping.
-/
namespace Go.Pf
open Go Go.Pu
set_option linter.unusedVariables false
theorem Agz (a b:Int):I64 (Af0 .i64 a b):=Tu _
def SqB (xs:List Asu):Prop:=xs.length<=1000/\∀s∈xs,s.2.2.length<=1000/\∀x∈s.2.2,I64 x
theorem Y3 {xs:List Asu}(h:SqB xs):Fr xs=some xs:=by
 have hl:=h.1;unfold Fr;have e0:((0:Int),([]:List Asu))=(fun k:Nat=>((k:Int),xs.take k)) 0:=by simp
 dsimp only;rw[e0];refine Eq.trans (Ao xs.length (fun k=>((k:Int),xs.take k)) (o:=xs.take xs.length) (fun k hk=> ?_) ?_) (by rw[List.take_length])
 ·have h2:=(h.2 xs[k] (List.getElem_mem hk)).1;have htl:(xs.take k).length<=k:=by rw[List.length_take];omega
  try dsimp only
  rw[dt (by omega),cond_true,Ar hk];simp only[Aa];rw[Br (by simp only[Ac];omega) (by simp only[Ac];omega)];simp only[Aa,List.nil_append];rw[Br (by simp only[Af];omega) (by simp only[Af];omega)];simp only[Aa,B1];rw[Aj (by omega),Bu xs k hk];rfl
 ·try dsimp only
  rw[df (by omega),cond_false];rfl
theorem NB.sqb {n:Eb}(h:NB n):SqB n.2.1:=⟨h.sq,h.ins⟩
theorem Avp {n:Eb}(h:NB n):Lu n=some n:=by
 unfold Lu;have ha:=h.an;have ho:=h.ot;rw[Y3 h.sqb];simp only[Aa];rw[Br (by simp only[Ac];omega) (by simp only[Ac];omega)];simp only[Aa];rw[Br (by simp only[Ac];omega) (by simp only[Ac];omega)];rfl
theorem NOk.nb {n:Eb}(h:NOk n):NB n:=by
 have hc:=Dl h.caps;refine⟨by have:=h.sq;omega,fun s hs=>⟨by have:=(h.ins s hs).1;omega,fun x hx=> ?_⟩,by have:=h.an;omega,fun a ha=> ?_,by have:=h.ot;omega,fun x hx=> ?_⟩
 ·have:=(h.ins s hs).2 x hx;unfold Lit at this;unfold I64;omega
 ·obtain⟨i,hi,rfl⟩:=List.getElem_of_mem ha;have:=h.ands i hi;rw[List.getD,List.getElem?_eq_getElem hi]at this;simp only[Option.getD_some]at this;unfold Lit at this;unfold I64;omega
 ·have:=h.outs x hx;unfold Lit at this;unfold I64;omega
structure Avq (n:Eb)(r:Eb×List Int):Prop where
 inp:r.1.1=n.1
 sq:r.1.2.1.length=n.2.1.length
 ins:∀s∈r.1.2.1,s.2.2.length<=4/\∀x∈s.2.2,I64 x
 an:r.1.2.2.1=[]
 ot:r.1.2.2.2=[]
 to:(r.2.length:Int)=Bc n
theorem Ae8 {n:Eb}(h:NOk n):Tot (H9 n) (Avq n):=by
 unfold H9;have hc:=Dl h.caps;have hsq:=h.sq;refine Tot.join (A:=fun v=>v=n.2.1) (Tot.bindEq (Y3 h.nb.sqb) (Tot.next rfl)) fun v hv=> ?_
 subst hv;refine Tot.lp (fun s=>(0<=s.1/\s.1<=Bc n)/\(s.2.length:Int)=s.1) (fun s=>(Bc n - s.1).toNat) ⟨⟨by simp only;omega,by simp only;omega⟩,by simp⟩ (fun s hs=> ?_);obtain⟨i,to⟩:=s;obtain⟨⟨i0,i1⟩,hl⟩:=hs;simp only at i0 i1 hl;refine Tot.bindEq (Cj h) ?_
 dsimp only;refine Tot.dite (fun h1=> ?_) (fun h1=> ?_)
 ·refine Tot.app (by simp only[Af];omega) (by omega) ?_
  rw[Aj (z:=i+1) (by omega)];exact Tot.next ⟨⟨⟨by simp only;omega,by simp only;omega⟩,by simp only[Ad,Af];omega⟩,by simp only;omega⟩
 refine Tot.exit ?_
 refine Tot.lp (fun s=>(0<=s.1/\s.1<=(n.2.1.length:Int))/\s.2.length=n.2.1.length/\∀q∈s.2,q.2.2.length<=4/\∀x∈q.2.2,I64 x) (fun s=>((n.2.1.length:Int) - s.1).toNat) ⟨⟨by simp only;omega,by simp only;omega⟩,rfl,fun q hq=>⟨(h.ins q hq).1,(h.nb.ins q hq).2⟩⟩ (fun s hs=> ?_);obtain⟨k,sq⟩:=s;obtain⟨⟨k0,k1⟩,hl2,hq⟩:=hs;simp only at k0 k1 hl2 hq;dsimp only;refine Tot.dite (fun h2=> ?_) (fun h2=> ?_)
 ·refine Tot.gin k0 h2 (Tot.get k0 h2 fun y hy hm=> ?_);have hym:=hq y hm;refine Tot.make (by omega) (by omega) (by omega) ?_
  refine Tot.gin k0 h2 (Tot.get k0 h2 fun y2 hy2 hm2=> ?_);rw[Aj (z:=k+1) (by omega)];refine Tot.next ⟨⟨⟨by simp only;omega,by simp only;omega⟩,by simp only[Bh];exact hl2,fun q hq2=> ?_⟩,by simp only;omega⟩;rcases Sk hq2 with hq2 | rfl
  ·exact hq q hq2
  ·refine⟨by simp only[List.length_replicate];omega,fun x hx=> ?_⟩;simp only at hx;rw[List.eq_of_mem_replicate hx];unfold I64;omega
 exact Tot.exit (Tot.ret ⟨rfl,hl2,hq,rfl,rfl,by simp only;omega⟩)
theorem O7 {to lits:List Int}(hl:lits.length<=1000)(h:∀x∈lits,0<=x/\x/2<(to.length:Int)/\x<=9223372036854775807):Tot (F1 (to,lits)) (fun r=>r.length=lits.length/\∀x∈r,I64 x):=by
 unfold F1;dsimp only;refine Tot.lp (fun s=>(0<=s.1/\s.1<=(lits.length:Int))/\(s.2.length:Int)=s.1/\∀x∈s.2,I64 x) (fun s=>((lits.length:Int) - s.1).toNat) ⟨⟨by simp only;omega,by simp only;omega⟩,by simp,fun x hx=>by simp at hx⟩ (fun s hs=> ?_);obtain⟨i,r⟩:=s;obtain⟨⟨i0,i1⟩,hr,hx⟩:=hs;simp only at i0 i1 hr hx;dsimp only;refine Tot.dite (fun h1=> ?_) (fun h1=> ?_)
 ·refine Tot.get i0 h1 fun y hy hm=> ?_
  obtain⟨y0,y1,y2⟩:=h y hm;refine Tot.div2 y0 y2 ?_
  refine Tot.get (by omega) y1 fun z _ _=> ?_
  refine Tot.get i0 h1 fun w _ _=> ?_
  refine Tot.app (by simp only[Af];omega) (by omega) ?_
  rw[Aj (z:=i+1) (by omega)];refine Tot.next ⟨⟨⟨by simp only;omega,by simp only;omega⟩,by simp only[Ad,Af];omega,fun x hx2=> ?_⟩,by simp only;omega⟩;rcases List.mem_append.1 hx2 with hx2 | hx2
  ·exact hx x hx2
  ·rw[List.mem_singleton.1 hx2];exact Agz _ _
 exact Tot.exit (Tot.ret ⟨by omega,hx⟩)
structure Asw (n:Eb)(r:Eb×Int):Prop where
 inp:r.1.1=n.1
 sq:r.1.2.1=n.2.1
 ot:r.1.2.2.2=n.2.2.2
 an:r.1.2.2.1.length<=n.2.2.1.length+1
 ands:∀a∈r.1.2.2.1,I64 a.1/\I64 a.2
 lit:I64 r.2
theorem Al6 {n:Eb}(h:NB n){a b:Int}(ha:I64 a)(hb:I64 b):Tot (Nr (n,(a,b))) (Asw n):=by
 unfold Nr;dsimp only;have han:=h.an;have base:∀x,I64 x->Asw n (n,x):=fun x hx=>⟨rfl,rfl,rfl,Nat.le_succ _,h.ands,hx⟩
 have lit:∀x,I64 x->Tot (some ((n,x):Eb×Int)) (Asw n):=fun x hx=>Tot.ret (base x hx)
 have m1:I64 (-1):=by unfold I64;omega
 have z0:I64 0:=by unfold I64;omega
 refine Tot.bindEq (Avp h) ?_
 refine Tot.bindEq (Qm n) ?_
 refine Tot.bind (I3 h) fun ok hok=> ?_
 refine Tot.nite (fun _=>lit _ m1) (fun ho=> ?_);have hok:=hok ho;have hc:=Dl hok.caps;rw[if_pos hok.caps,Ab4 ha];refine Tot.bindEq rfl ?_
 refine Tot.ndite (fun _=>lit _ m1) (fun ha2=> ?_);rw[Ab4 hb];refine Tot.bindEq rfl ?_
 refine Tot.ndite (fun _=>lit _ m1) (fun hb2=> ?_);refine Tot.dite (fun _=>lit _ z0) (fun _=> ?_);refine Tot.dite (fun _=>lit _ z0) (fun _=> ?_);refine Tot.dite (fun _=>lit _ z0) (fun _=> ?_);refine Tot.dite (fun _=>lit _ hb) (fun _=> ?_);refine Tot.dite (fun _=>lit _ hb) (fun _=> ?_);refine Tot.dite (fun _=>lit _ ha) (fun _=> ?_);refine Tot.lp (fun i=>0<=i/\i<=(n.2.2.1.length:Int)) (fun i=>((n.2.2.1.length:Int) - i).toNat) ⟨by omega,by omega⟩ (fun i hi=> ?_);obtain⟨i0,i1⟩:=hi;refine Tot.dite (fun h1=> ?_) (fun h1=> ?_)
 ·refine Tot.get i0 h1 fun y _ _=> ?_
  refine Tot.ite (fun _=> ?_) (fun _=> ?_)
  ·refine Tot.bindEq (Cj hok) ?_
   exact Tot.exit (lit _ (Tu _))
  ·rw[Aj (z:=i+1) (by omega)];exact Tot.next ⟨⟨by omega,by omega⟩,by omega⟩
 refine Tot.exit ?_
 refine Tot.dite (fun _=>lit _ m1) (fun _=> ?_);refine Tot.app (by simp only[Af];omega) (by omega) ?_
 refine Tot.ret ⟨rfl,rfl,rfl,by simp,fun q hq=> ?_,Tu _⟩;simp only at hq;rcases List.mem_append.1 hq with hq | hq
 ·exact h.ands q hq
 ·rw[List.mem_singleton.1 hq];refine⟨?_,?_⟩
  ·simp only;split;exact hb;exact ha
  ·simp only;split;exact hb;exact ha
end Go.Pf
/-
  Own work. Draws, plainly: cones, sweeping, hashing, drawn nets.
-/
namespace Go.Pf
open Go Go.Pu
set_option linter.unusedVariables false
def Low (m:Int)(xs:List Bool):Prop:=∀k:Nat,m<(k:Int)->xs.getD k false=false
theorem Ag0 {m:Int}{xs:List Bool}{i:Int}(h:Low m xs)(h0:0<=i)(hi:i<=m)(b:Bool):Low m (A8 xs i b):=fun k hk=>by
 unfold A8;rw[List.getD,List.getElem?_set_ne (by omega)];exact h k hk
theorem U4 {n:Eb}(h:NOk n){i:Int}(h0:0<=i)(h1:i<(n.2.2.1.length:Int)):Lit (n.2.2.1.getD i.toNat (0,0)).1 (Bc n+i)/\Lit (n.2.2.1.getD i.toNat (0,0)).2 (Bc n+i):=by
 have:=h.ands i.toNat (by omega);have e:(i.toNat:Int)=i:=by omega
 rw[e]at this;exact this
theorem Ab6 {n:Eb}(h:NOk n){An3:List Bool}(hm:(An3.length:Int)=Av n){m:Int}(hl:Low m An3):Tot (Jm (n,An3)) (fun r=>(r.length:Int)=Av n/\Low m r):=by
 unfold Jm;dsimp only;have hc:=Dl h.caps;have han:=h.an;refine Tot.app (by simp only[Ac];omega) (by omega) ?_
 rw[List.nil_append,Aj (by omega)];refine Tot.lp (fun s=>(-1<=s.1/\s.1<(n.2.2.1.length:Int))/\(s.2.length:Int)=Av n/\Low m s.2) (fun s=>(s.1+1).toNat) ⟨⟨by simp only;omega,by simp only;omega⟩,hm,hl⟩ (fun s hs=> ?_);obtain⟨i,r⟩:=s;obtain⟨⟨i0,i1⟩,hr,hlr⟩:=hs;simp only at i0 i1 hr hlr;dsimp only;refine Tot.dite (fun h1=> ?_) (fun h1=> ?_)
 ·refine Tot.bindEq (Cj h) ?_
  rw[Aj (z:=Bc n+i) (by omega),Aj (z:=i - 1) (by omega)];refine Tot.gin (by omega) (by omega) (Tot.get (by omega) (by omega) fun b hb _=> ?_);refine Tot.ite (fun hbt=> ?_) (fun _=> ?_)
  ·have hle:Bc n+i<=m:=by
    by_cases c:m<Bc n+i
    ·have:=hlr (Bc n+i).toNat (by omega);rw[hb,this]at hbt;cases hbt
    ·omega
   refine Tot.get h1 i1 fun a ha _=> ?_
   have haa:=U4 h h1 i1;rw[<-ha]at haa;unfold Lit at haa;refine Tot.div2 (by omega) (by omega) ?_
   refine Tot.gin (by omega) (by omega) (Tot.get (by omega) (by omega) fun _ _ _=> ?_);refine Tot.get h1 i1 fun a2 ha2 _=> ?_
   have e:a2=a:=by rw[ha,ha2]
   subst e;refine Tot.div2 (by omega) (by omega) ?_
   refine Tot.gin (by omega) (by rw[Bh];omega) (Tot.get (by omega) (by rw[Bh];omega) fun _ _ _=> ?_);refine Tot.next ⟨⟨⟨by simp only;omega,by simp only;omega⟩,by simp only[Bh];exact hr,Ag0 (Ag0 hlr (by omega) (by omega) _) (by omega) (by omega) _⟩,by simp only;omega⟩
  ·exact Tot.next ⟨⟨⟨by simp only;omega,by simp only;omega⟩,hr,hlr⟩,by simp only;omega⟩
 exact Tot.exit (Tot.ret ⟨hr,hlr⟩)
theorem Ajh {n:Eb}(h:NOk n):Tot (D1 n) (fun r=>r=[]\/(r.length:Int)=Av n):=by
 unfold D1;have hc:=Dl h.caps;refine Tot.bind (I3 h.nb) fun ok hok=> ?_
 dsimp only;refine Tot.nite (fun _=>Tot.ret (.inl rfl)) (fun _=> ?_);refine Tot.bindEq (Bi h) ?_
 refine Tot.make (by omega) (by omega) (by omega) ?_
 refine Tot.bindEq (Wo h.nb) ?_
 have hrl:(D2 n).length<=1001000:=O6 h.nb _;refine Tot.lp (fun s=>(0<=s.1/\s.1<=((D2 n).length:Int))/\(s.2.length:Int)=Av n) (fun s=>(((D2 n).length:Int) - s.1).toNat) ⟨⟨by simp only;omega,by simp only;omega⟩,by simp only[List.length_replicate];omega⟩ (fun s hs=> ?_);obtain⟨i,r⟩:=s;obtain⟨⟨i0,i1⟩,hr⟩:=hs;simp only at i0 i1 hr;dsimp only;refine Tot.dite (fun h1=> ?_) (fun h1=> ?_)
 ·refine Tot.gin i0 h1 (Tot.get i0 h1 fun x _ hx=> ?_);have hlx:Lit x (Av n):=by
   rcases L9.1 hx with q | ⟨s,hs,q⟩
   ·exact h.outs x q
   ·exact(h.ins s hs).2 x q
  unfold Lit at hlx;refine Tot.div2 (by omega) (by omega) ?_
  refine Tot.gin (by omega) (by omega) (Tot.get (by omega) (by omega) fun _ _ _=> ?_);rw[Aj (z:=i+1) (by omega)];exact Tot.next ⟨⟨⟨by simp only;omega,by simp only;omega⟩,by simp only[Bh];exact hr⟩,by simp only;omega⟩
 refine Tot.exit ?_
 refine Tot.bind (Ab6 h hr (m:=1000000) (fun k hk=> ?_)) fun r hr=>Tot.ret (.inr hr.1)
 rw[List.getD,List.getElem?_eq_none (by omega)];rfl
theorem Aji {n:Eb}(h:NOk n)(hk:C3 n=some true):Tot (D1 n) (fun r=>(r.length:Int)=Av n):=by
 obtain⟨o,h1,h2⟩:=Ajh h;refine⟨o,h1,?_⟩;rcases h2 with h2 | h2
 ·exfalso
  subst h2;unfold D1 at h1;rw[hk]at h1;simp only[Aa,Bool.not_true,cond_false]at h1;rw[Bi h]at h1;have hc:=Dl h.caps;have hrl:(D2 n).length<=1001000:=O6 h.nb _;have key:Tot (D1 n) (fun r=>(r.length:Int)=Av n):=by
   unfold D1;refine Tot.bindEq hk ?_
   dsimp only;refine Tot.nite (fun e=>by cases e) (fun _=> ?_);refine Tot.bindEq (Bi h) ?_
   refine Tot.make (by omega) (by omega) (by omega) ?_
   refine Tot.bindEq (Wo h.nb) ?_
   refine Tot.lp (fun s=>(0<=s.1/\s.1<=((D2 n).length:Int))/\(s.2.length:Int)=Av n) (fun s=>(((D2 n).length:Int) - s.1).toNat) ⟨⟨by simp only;omega,by simp only;omega⟩,by simp only[List.length_replicate];omega⟩ (fun s hs=> ?_);obtain⟨i,r⟩:=s;obtain⟨⟨i0,i1⟩,hr⟩:=hs;simp only at i0 i1 hr;dsimp only;refine Tot.dite (fun h1=> ?_) (fun h1=> ?_)
   ·refine Tot.gin i0 h1 (Tot.get i0 h1 fun x _ hx=> ?_);have hlx:Lit x (Av n):=by
     rcases L9.1 hx with q | ⟨s,hs,q⟩
     ·exact h.outs x q
     ·exact(h.ins s hs).2 x q
    unfold Lit at hlx;refine Tot.div2 (by omega) (by omega) ?_
    refine Tot.gin (by omega) (by omega) (Tot.get (by omega) (by omega) fun _ _ _=> ?_);rw[Aj (z:=i+1) (by omega)];exact Tot.next ⟨⟨⟨by simp only;omega,by simp only;omega⟩,by simp only[Bh];exact hr⟩,by simp only;omega⟩
   refine Tot.exit ?_
   refine Tot.bind (Ab6 h hr (m:=1000000) (fun k hk=> ?_)) fun r hr=>Tot.ret hr.1
   rw[List.getD,List.getElem?_eq_none (by omega)];rfl
  obtain⟨o,k1,k2⟩:=key;unfold D1 at k1;rw[hk]at k1;simp only[Aa,Bool.not_true,cond_false]at k1;rw[Bi h]at k1;rw[h1]at k1;cases k1;simp only[Ac]at k2;omega
 ·exact h2
theorem Ajj {n:Eb}(h:NB n){v:Int}:Tot (O5 (n,v)) (fun r=>r.length<=1000/\∀x∈r,0<=x/\x<=v/\NOk n/\v<Av n):=by
 unfold O5;dsimp only;refine Tot.bind (I3 h) fun ok hok=> ?_
 refine Tot.nite (fun _=>Tot.ret ⟨by simp,fun x hx=>(by cases hx)⟩) (fun ho=> ?_);have hn:=hok ho;have hc:=Dl hn.caps;refine Tot.dite (fun _=>Tot.ret ⟨by simp,fun x hx=>(by cases hx)⟩) (fun v0=> ?_);refine Tot.bindEq (Bi hn) ?_
 refine Tot.dite (fun _=>Tot.ret ⟨by simp,fun x hx=>(by cases hx)⟩) (fun v1=> ?_);refine Tot.bindEq (Bi hn) ?_
 refine Tot.make (by omega) (by omega) (by omega) ?_
 refine Tot.gin (by omega) (by rw[List.length_replicate];omega) (Tot.get (by omega) (by rw[List.length_replicate];omega) fun _ _ _=> ?_);refine Tot.bind (Ab6 hn (m:=v) (by rw[Bh,List.length_replicate];omega) (Ag0 (fun k hk=> ?_) (by omega) (Int.le_refl _) _)) fun r hr=> ?_
 ·rw[List.getD];by_cases q:k<(Av n).toNat
  ·rw[List.getElem?_replicate,if_pos q];rfl
  ·rw[List.getElem?_eq_none (by rw[List.length_replicate];omega)];rfl
 obtain⟨hr1,hr2⟩:=hr;refine Tot.lp (fun s=>(0<=s.1/\s.1<=(r.length:Int))/\(s.2.length:Int)<=s.1/\∀x∈s.2,0<=x/\x<=v) (fun s=>((r.length:Int) - s.1).toNat) ⟨⟨by simp only;omega,by simp only;omega⟩,by simp,fun x hx=>by simp at hx⟩ (fun s hs=> ?_);obtain⟨i,q⟩:=s;obtain⟨⟨i0,i1⟩,hq,hx⟩:=hs;simp only at i0 i1 hq hx;dsimp only;refine Tot.dite (fun h1=> ?_) (fun h1=> ?_)
 ·refine Tot.gin i0 h1 (Tot.get i0 h1 fun b hb _=> ?_);rw[Aj (z:=i+1) (by omega)];refine Tot.ite (fun hbt=> ?_) (fun _=> ?_)
  ·refine Tot.app (by simp only[Af];omega) (by omega) ?_
   refine Tot.next ⟨⟨⟨by simp only;omega,by simp only;omega⟩,by simp only[Ad,Af];omega,fun x hx2=> ?_⟩,by simp only;omega⟩;rcases List.mem_append.1 hx2 with hx2 | hx2
   ·exact hx x hx2
   ·rw[List.mem_singleton.1 hx2];refine⟨i0,?_⟩;by_cases c:v<i
    ·have:=hr2 i.toNat (by omega);rw[hb,this]at hbt;cases hbt
    ·omega
  ·exact Tot.next ⟨⟨⟨by simp only;omega,by simp only;omega⟩,by simp only;omega,hx⟩,by simp only;omega⟩
 exact Tot.exit (Tot.ret ⟨by omega,fun x hx2=>⟨(hx x hx2).1,(hx x hx2).2,hn,by omega⟩⟩)
theorem Ajk:NB (0,([],([],[]))):=⟨by simp,fun s hs=>(by cases hs),by simp,fun s hs=>(by cases hs),by simp,fun s hs=>(by cases hs)⟩
theorem Tv {x m:Int}{L:Nat}(h:Lit x m)(hL:(L:Int)=m)(hm:m<=1000):0<=x/\x/2<(L:Int)/\x<=9223372036854775807:=by
 unfold Lit at h;omega
theorem Aqb {n:Eb}(h:NB n):Tot (Qk n) NB:=by
 unfold Qk;obtain⟨ok,hk,hok⟩:=I3 h;refine Tot.bindEq hk ?_
 dsimp only;refine Tot.nite (fun _=>Tot.ret Ajk) (fun ho=> ?_);subst ho;have hn:=hok rfl;have hc:=Dl hn.caps;have hsq:=hn.sq;have han:=hn.an;refine Tot.bind (Aji hn hk) fun keep hkeep=> ?_
 refine Tot.bind (Ae8 hn) fun r hr=> ?_
 obtain⟨⟨ri,rs,ra,ro⟩,to⟩:=r;obtain⟨q1,q2,q3,q4,q5,q6⟩:=hr;simp only at q1 q2 q3 q4 q5 q6;subst q1 q4 q5;refine Tot.bindEq (Cj hn) ?_
 refine Tot.lp (fun s=>(0<=s.1/\s.1<=(n.2.2.1.length:Int))/\(s.2.1.length:Int)=Bc n+s.1/\(s.2.2.2.length:Int)<=s.1/\(∀a∈s.2.2.2,I64 a.1/\I64 a.2)/\(0<=s.2.2.1/\s.2.2.1<=Bc n+s.1)) (fun s=>((n.2.2.1.length:Int) - s.1).toNat) ⟨⟨by simp only;omega,by simp only;omega⟩,by simp only;omega,by simp,fun a ha=>by simp at ha,by simp only;omega,by simp only;omega⟩ (fun s hs=> ?_);obtain⟨i,to,nx,as⟩:=s;obtain⟨⟨i0,i1⟩,hto,has,haa,nx0,nx1⟩:=hs;simp only at i0 i1 hto has haa nx0 nx1;dsimp only;refine Tot.dite (fun h1=> ?_) (fun h1=> ?_)
 ·refine Tot.bindEq (Cj hn) ?_
  rw[Aj (z:=Bc n+i) (by omega),Aj (z:=i+1) (by omega)];refine Tot.gin (by omega) (by omega) (Tot.get (by omega) (by omega) fun b _ _=> ?_);refine Tot.nite (fun _=> ?_) (fun _=> ?_)
  ·refine Tot.app (by simp only[Af];omega) (by omega) ?_
   exact Tot.next ⟨⟨⟨by simp only;omega,by simp only;omega⟩,by simp only[Ad,Af];omega,by simp only;omega,haa,by simp only;omega,by simp only;omega⟩,by simp only;omega⟩
  ·refine Tot.get i0 h1 fun a ha _=> ?_
   refine Tot.get i0 h1 fun a2 ha2 _=> ?_
   have e:a2=a:=by rw[ha,ha2]
   subst e;have hl:=U4 hn i0 h1;rw[<-ha]at hl;refine Tot.bind (O7 (by simp) (fun x hx=> ?_)) fun v hv=> ?_
   ·simp only[List.mem_cons,List.not_mem_nil,or_false]at hx;rcases hx with rfl | rfl
    ·exact Tv hl.1 hto (by omega)
    ·exact Tv hl.2 hto (by omega)
   obtain⟨hv1,hv2⟩:=hv;simp only[Ab,Ac]at hv1;refine Tot.gin (by omega) (by omega) (Tot.get (by omega) (by omega) fun x _ hx=> ?_);refine Tot.gin (by omega) (by omega) (Tot.get (by omega) (by omega) fun y _ hy=> ?_);refine Tot.app (by simp only[Af];omega) (by omega) ?_
   refine Tot.app (by simp only[Af];omega) (by omega) ?_
   rw[Aj (z:=nx+1) (by omega)];refine Tot.next ⟨⟨⟨by simp only;omega,by simp only;omega⟩,by simp only[Ad,Af];omega,by simp only[Ad,Af];omega,fun a ha2=> ?_,by simp only;omega,by simp only;omega⟩,by simp only;omega⟩;rcases List.mem_append.1 ha2 with ha2 | ha2
   ·exact haa a ha2
   ·rw[List.mem_singleton.1 ha2];exact⟨hv2 x hx,hv2 y hy⟩
 refine Tot.exit ?_
 have hto2:(to.length:Int)=Av n:=by omega
 refine Tot.lp (fun s=>(0<=s.1/\s.1<=(n.2.1.length:Int))/\s.2.length=n.2.1.length/\∀q∈s.2,q.2.2.length<=4/\∀x∈q.2.2,I64 x) (fun s=>((n.2.1.length:Int) - s.1).toNat) ⟨⟨by simp only;omega,by simp only;omega⟩,q2,q3⟩ (fun s hs=> ?_);obtain⟨k,sq⟩:=s;obtain⟨⟨k0,k1⟩,hl2,hq⟩:=hs;simp only at k0 k1 hl2 hq;dsimp only;refine Tot.dite (fun h2=> ?_) (fun h2=> ?_)
 ·refine Tot.get k0 (by omega) fun y _ hm=> ?_
  refine Tot.bind (O7 (by have:=(hn.ins y hm).1;omega) (fun x hx=>Tv ((hn.ins y hm).2 x hx) hto2 (by omega))) fun v hv=> ?_
  refine Tot.gin k0 h2 (Tot.get k0 h2 fun y2 _ _=> ?_);rw[Aj (z:=k+1) (by omega)];refine Tot.next ⟨⟨⟨by simp only;omega,by simp only;omega⟩,by simp only[Bh];exact hl2,fun q hq2=> ?_⟩,by simp only;omega⟩;rcases Sk hq2 with hq2 | rfl
  ·exact hq q hq2
  ·exact⟨by simp only;rw[hv.1];exact(hn.ins y hm).1,hv.2⟩
 refine Tot.exit ?_
 refine Tot.bind (O7 (by have:=hn.ot;omega) (fun x hx=>Tv (hn.outs x hx) hto2 (by omega))) fun v hv=> ?_
 exact Tot.ret ⟨by simp only;omega,fun s hs=>⟨by have:=(hq s hs).1;omega,(hq s hs).2⟩,by simp only;omega,haa,by simp only;rw[hv.1];have:=hn.ot;omega,hv.2⟩
theorem Al7 {o n:Eb}(ho:NB o)(hn:NOk n)(hsq:o.2.1.length=n.2.1.length){to:List Int}(hto:(to.length:Int)=Av n):Tot (Jo (o,(n,to))) (fun r=>NB r.1):=by
 unfold Jo;dsimp only;have hc:=Dl hn.caps;have hs12:=hn.sq;refine Tot.lp (fun s=>(0<=s.1/\s.1<=(n.2.1.length:Int))/\s.2.length=n.2.1.length/\∀q∈s.2,q.2.2.length<=1000/\∀x∈q.2.2,I64 x) (fun s=>((n.2.1.length:Int) - s.1).toNat) ⟨⟨by simp only;omega,by simp only;omega⟩,hsq,ho.ins⟩ (fun s hs=> ?_);obtain⟨k,sq⟩:=s;obtain⟨⟨k0,k1⟩,hl2,hq⟩:=hs;simp only at k0 k1 hl2 hq;dsimp only;refine Tot.dite (fun h2=> ?_) (fun h2=> ?_)
 ·refine Tot.get k0 (by omega) fun y _ hm=> ?_
  refine Tot.bind (O7 (by have:=(hn.ins y hm).1;omega) (fun x hx=>Tv ((hn.ins y hm).2 x hx) hto (by omega))) fun v hv=> ?_
  refine Tot.gin k0 h2 (Tot.get k0 h2 fun y2 _ _=> ?_);rw[Aj (z:=k+1) (by omega)];refine Tot.next ⟨⟨⟨by simp only;omega,by simp only;omega⟩,by simp only[Bh];exact hl2,fun q hq2=> ?_⟩,by simp only;omega⟩;rcases Sk hq2 with hq2 | rfl
  ·exact hq q hq2
  ·exact⟨by simp only;rw[hv.1];have:=(hn.ins y hm).1;omega,hv.2⟩
 refine Tot.exit ?_
 refine Tot.bind (O7 (by have:=hn.ot;omega) (fun x hx=>Tv (hn.outs x hx) hto (by omega))) fun v hv=> ?_
 refine Tot.bind (Aqb (n:=(o.1,(sq,(o.2.2.1,v)))) ⟨by simp only;omega,hq,ho.an,ho.ands,by simp only;rw[hv.1];have:=hn.ot;omega,hv.2⟩) fun r hr=> ?_
 exact Tot.ret hr
theorem Asx {n:Eb}(h:NB n):Tot (Tt n) NB:=by
 unfold Tt;refine Tot.bind (I3 h) fun ok hok=> ?_
 dsimp only;refine Tot.nite (fun _=>Tot.ret Ajk) (fun ho=> ?_);have hn:=hok ho;have hc:=Dl hn.caps;have hsq:=hn.sq;have han:=hn.an;refine Tot.bind (Ae8 hn) fun r hr=> ?_
 obtain⟨⟨ri,rs,ra,ro⟩,to⟩:=r;obtain⟨q1,q2,q3,q4,q5,q6⟩:=hr;simp only at q1 q2 q3 q4 q5 q6;subst q1 q4 q5;refine Tot.lp (fun s=>(0<=s.1/\s.1<=(n.2.2.1.length:Int))/\s.2.1.length=n.2.1.length/\NB (s.2.2.2.2.2,(s.2.1,(s.2.2.1,s.2.2.2.1)))/\(s.2.2.1.length:Int)<=s.1/\(s.2.2.2.2.1.length:Int)=Bc n+s.1) (fun s=>((n.2.2.1.length:Int) - s.1).toNat)
  ⟨⟨by simp only;omega,by simp only;omega⟩,q2,⟨by simp only;omega,fun s hs=>⟨by have:=(q3 s hs).1;omega,(q3 s hs).2⟩,by simp,fun a ha=>(by cases ha),by simp,fun a ha=>(by cases ha)⟩,by simp,by simp only;omega⟩ (fun s hs=> ?_)
 obtain⟨i,sq,as,os,to,inp⟩:=s;obtain⟨⟨i0,i1⟩,hl,hb,hal,htl⟩:=hs;simp only at i0 i1 hl hb hal htl;dsimp only;refine Tot.dite (fun h1=> ?_) (fun h1=> ?_)
 ·have hlit:=U4 hn i0 h1;refine Tot.get i0 h1 fun a ha _=> ?_
  rw[<-ha]at hlit;unfold Lit at hlit;refine Tot.div2 (by omega) (by omega) ?_
  refine Tot.gin (by omega) (by omega) (Tot.get (by omega) (by omega) fun x _ _=> ?_);refine Tot.get i0 h1 fun a2 _ _=> ?_
  refine Tot.get i0 h1 fun a3 ha3 _=> ?_
  have e:a3=a:=by rw[ha,ha3]
  subst e;refine Tot.div2 (by omega) (by omega) ?_
  refine Tot.gin (by omega) (by omega) (Tot.get (by omega) (by omega) fun y _ _=> ?_);refine Tot.get i0 h1 fun a4 _ _=> ?_
  refine Tot.bind (Al6 hb (Agz _ _) (Agz _ _)) fun r hr=> ?_
  obtain⟨⟨mi,ms,ma,mo⟩,z⟩:=r;obtain⟨r1,r2,r3,r4,r5,r6⟩:=hr;simp only at r1 r2 r3 r4 r5 r6;subst r1 r2 r3;refine Tot.app (by simp only[Af];omega) (by omega) ?_
  rw[Aj (z:=i+1) (by omega)];refine Tot.next ⟨⟨⟨by simp only;omega,by simp only;omega⟩,hl,⟨hb.sq,hb.ins,by simp only;omega,r5,hb.ot,hb.outs⟩,by simp only;omega,by simp only[Ad,Af];omega⟩,by simp only;omega⟩
 refine Tot.exit ?_
 refine Tot.bind (Al7 hb hn hl (by omega)) fun r hr=>Tot.ret hr
end Go.Pf
/-
  Own work. The device's routing nodes, plainly.
-/
namespace Go.Pf
open Go Go.Pu
def Gq (d:Int×(Int×(Int×Int)))(t dir len:Int):Int:=t % d.1+(if dir=0 then len else if dir=2 then -len else 0)
def Gg (d:Int×(Int×(Int×Int)))(t dir len:Int):Int:=t/d.1+(if dir=1 then len else if dir=3 then -len else 0)
def stp (d:Int×(Int×(Int×Int)))(t dir len:Int):Int:=
 if(0<=Gq d t dir len/\Gq d t dir len<=d.1 - 1)/\(0<=Gg d t dir len/\Gg d t dir len<=d.2.1 - 1)then Gg d t dir len*d.1+Gq d t dir len else -1
theorem Z6 {d:Int×(Int×(Int×Int))}{t:Int}(h:DOk d)(h0:0<=t)(h1:t<d.1*d.2.1):(0<=t % d.1/\t % d.1<d.1)/\(0<=t/d.1/\t/d.1<d.2.1)/\t=t/d.1*d.1+t % d.1:=by
 have hw:=h.1;refine⟨⟨Int.emod_nonneg _ (by omega),Int.emod_lt_of_pos _ (by omega)⟩,⟨Int.ediv_nonneg h0 (by omega),Int.ediv_lt_of_lt_mul (by omega) (by rw[Int.mul_comm];exact h1)⟩,?_⟩;have:=Int.emod_add_mul_ediv t d.1;rw[Int.mul_comm]at this;omega
theorem Aqc {a b:Int}(ha:0<=a/\a<=5)(hb:3<=b/\b<=6):0<=a*b/\a*b<=30:=by
 have:b=3\/b=4\/b=5\/b=6:=by omega
 rcases this with rfl | rfl | rfl | rfl<;>omega
theorem An7 {d:Int×(Int×(Int×Int))}(h:DOk d)(x y:Int):
 ((A1 (x,(0,wrap .i64 (d.1 - 1)))).bind fun v5=>
 let v6:Bool:= !v5
 bif v6 then(
  some (-1))else
 let v7:Int:=wrap .i64 (d.2.1 - 1)
 (A1 (y,(0,v7))).bind fun v8=>
 let v9:Bool:= !v8
 bif v9 then(
  some (-1))else
 let v10:Int:=wrap .i64 (y*d.1)
 let v11:Int:=wrap .i64 (v10+x)
 some v11)=some (if(0<=x/\x<=d.1 - 1)/\(0<=y/\y<=d.2.1 - 1)then y*d.1+x else -1):=by
 have hw:=h.1;have hh:=h.2.1
 rw[Aj (by omega),B4];simp only[Aa];rw[Aj (z:=d.2.1 - 1) (by omega),B4];simp only[Aa];by_cases q:0<=x/\x<=d.1 - 1
 ·by_cases q2:0<=y/\y<=d.2.1 - 1
  ·have hs:=Aqc (a:=y) (b:=d.1) (by omega) hw;rw[if_pos ⟨q,q2⟩,dt q,dt q2,Aj (z:=y*d.1) (by omega),Aj (by omega)];rfl
  ·rw[if_neg (fun e=>q2 e.2),dt q,df q2];rfl
 ·rw[if_neg (fun e=>q e.1),df q];rfl
theorem Sl {d:Int×(Int×(Int×Int))}{t dir len:Int}(h:DOk d)(h0:0<=t)(h1:t<d.1*d.2.1)(hd:0<=dir/\dir<=3)(hl:0<=len/\len<=6):Dh (d,(t,(dir,len)))=some (stp d t dir len):=by
 unfold Dh;have hw:=h.1;have hh:=h.2.1
 have hm:=By h.1 h.2.1;obtain⟨⟨hx0,hx1⟩,⟨hy0,hy1⟩,_⟩:=Z6 h h0 h1;dsimp only;rw[Bx h0 (by omega),Ez h0 (by omega) (by omega)];simp only[Aa];have fin:∀x y,x=Gq d t dir len->y=Gg d t dir len->B1 (some (Sum.inl (x,y))) (fun(v3:(Int×Int))=>
  let v4:Int:=wrap .i64 (d.1 - 1)
  (A1 (v3.1,(0,v4))).bind fun v5=>
  let v6:Bool:= !v5
  bif v6 then(
   some (-1))else
  let v7:Int:=wrap .i64 (d.2.1 - 1)
  (A1 (v3.2,(0,v7))).bind fun v8=>
  let v9:Bool:= !v8
  bif v9 then(
   some (-1))else
  let v10:Int:=wrap .i64 (v3.2*d.1)
  let v11:Int:=wrap .i64 (v10+v3.1)
  some v11)=some (stp d t dir len):=by
  intro x y hx hy;subst hx hy;exact An7 h _ _
 have hc:dir=0\/dir=1\/dir=2\/dir=3:=by omega
 rcases hc with rfl | rfl | rfl | rfl
 ·rw[dt rfl,cond_true,Aj (by omega)];exact fin _ _ (by simp[Gq]) (by simp[Gg])
 ·rw[df (by omega),cond_false,dt rfl,cond_true,Aj (by omega)];exact fin _ _ (by simp[Gq]) (by simp[Gg])
 ·rw[df (by omega),cond_false,df (by omega),cond_false,dt rfl,cond_true,Aj (by omega)];exact fin _ _ (by simp[Gq];omega) (by simp[Gg])
 ·rw[df (by omega),cond_false,df (by omega),cond_false,df (by omega),cond_false,Aj (by omega)];exact fin _ _ (by simp[Gq]) (by simp[Gg];omega)
theorem Wp {d:Int×(Int×(Int×Int))}{t dir len:Int}(h:DOk d)(h0:0<=t)(h1:t<d.1*d.2.1)(hd:0<=dir/\dir<=3)(hl:0<=len/\len<=6):Cz (d,(t,(dir,len)))=some (stp d t dir len):=by
 unfold Cz;have hw:=h.1;have hh:=h.2.1
 have hm:=By h.1 h.2.1;obtain⟨⟨hx0,hx1⟩,⟨hy0,hy1⟩,_⟩:=Z6 h h0 h1;have ht:tk d t=tkp d t:=by unfold tk;rw[if_pos ⟨h,h0,h1⟩]
 have ht0:=Ab1 d t;simp only[Ql d t (by omega),Aa,ht,Co];rw[df (by omega),cond_false,dt hd,dt hl,Bx h0 (by omega),Ez h0 (by omega) (by omega)];simp only[Aa,Bool.not_true,cond_false];have fin:∀x y,x=Gq d t dir len->y=Gg d t dir len->((Bb (x,(0,wrap .i64 (d.1 - 1)))).bind fun v5=>
  let v6:Bool:= !v5
  bif v6 then(
   some (-1))else
  let v7:Int:=wrap .i64 (d.2.1 - 1)
  (Bb (y,(0,v7))).bind fun v8=>
  let v9:Bool:= !v8
  bif v9 then(
   some (-1))else
  let v10:Int:=wrap .i64 (y*d.1)
  let v11:Int:=wrap .i64 (v10+x)
  some v11)=some (stp d t dir len):=by
  intro x y hx hy;subst hx hy;exact An7 h _ _
 simp only[Co,Aa]at fin;have hc:dir=0\/dir=1\/dir=2\/dir=3:=by omega
 have ex:∃a b:Int,Ak 0 [1,0,(-1),0] dir=some a/\Ak 0 [0,1,0,(-1)] dir=some b/\gin 4 dir=some ()/\wrap .i64 (t % d.1+wrap .i64 (a*len))=Gq d t dir len/\wrap .i64 (t/d.1+wrap .i64 (b*len))=Gg d t dir len:=by
  rcases hc with rfl | rfl | rfl | rfl
  ·exact⟨1,0,rfl,rfl,rfl,by rw[Aj (z:=1*len) (by omega),Aj (by omega)];simp[Gq],by rw[Aj (z:=0*len) (by omega),Aj (by omega)];simp[Gg]⟩
  ·exact⟨0,1,rfl,rfl,rfl,by rw[Aj (z:=0*len) (by omega),Aj (by omega)];simp[Gq],by rw[Aj (z:=1*len) (by omega),Aj (by omega)];simp[Gg]⟩
  ·exact⟨-1,0,rfl,rfl,rfl,by rw[Aj (z:= -1*len) (by omega),Aj (by omega)];simp[Gq],by rw[Aj (z:=0*len) (by omega),Aj (by omega)];simp[Gg]⟩
  ·exact⟨0,-1,rfl,rfl,rfl,by rw[Aj (z:=0*len) (by omega),Aj (by omega)];simp[Gq],by rw[Aj (z:= -1*len) (by omega),Aj (by omega)];simp[Gg]⟩
 obtain⟨a,b,ea,eb,eg,ex,ey⟩:=ex;simp only[Ab,Ac,Nat.zero_add,Nat.reduceAdd,ea,eb,eg,Aa,ex,ey];exact fin _ _ rfl rfl
def A5 (d:Int×(Int×(Int×Int)))(n:Int):Int:=n/per d
def Bn (d:Int×(Int×(Int×Int)))(n:Int):Int:=n % per d
def Fb (d:Int×(Int×(Int×Int)))(n:Int):Int:=(Bn d n - 7)/d.2.2.1
def Dt (d:Int×(Int×(Int×Int)))(n:Int):Int:=(Bn d n - 7) % d.2.2.1
theorem Ii {d:Int×(Int×(Int×Int))}{n:Int}(h:DOk d)(h0:0<=n)(h1:n<Aq d):(0<=A5 d n/\A5 d n<d.1*d.2.1)/\(0<=Bn d n/\Bn d n<per d)/\n=A5 d n*per d+Bn d n:=by
 have hp:=Dk h;unfold A5 Bn;refine⟨⟨Int.ediv_nonneg h0 (by omega),Int.ediv_lt_of_lt_mul (by omega) (by exact h1)⟩,⟨Int.emod_nonneg _ (by omega),Int.emod_lt_of_pos _ (by omega)⟩,?_⟩;have:=Int.emod_add_mul_ediv n (per d);rw[Int.mul_comm]at this;omega
theorem Nv {d:Int×(Int×(Int×Int))}{n:Int}(h:DOk d)(h0:0<=n)(h7:7<=Bn d n)(h1:n<Aq d):(0<=Fb d n/\Fb d n<=3)/\(0<=Dt d n/\Dt d n<d.2.2.1)/\Bn d n=7+Fb d n*d.2.2.1+Dt d n:=by
 have ht:=h.2.2.1;obtain⟨_,⟨hp0,hp1⟩,_⟩:=Ii h h0 h1;unfold Fb Dt;have e:(Bn d n - 7)/d.2.2.1<4:=Int.ediv_lt_of_lt_mul (by omega) (by unfold per at hp1;omega);refine⟨⟨Int.ediv_nonneg (by omega) (by omega),by omega⟩,⟨Int.emod_nonneg _ (by omega),Int.emod_lt_of_pos _ (by omega)⟩,?_⟩;have:=Int.emod_add_mul_ediv (Bn d n - 7) d.2.2.1;rw[Int.mul_comm]at this;omega
theorem K9 {d:Int×(Int×(Int×Int))}{n:Int}(h:DOk d)(h0:0<=n)(h1:n<=9223372036854775807):C2 (d,n)=some (A5 d n,Bn d n):=by
 have hp:=Dk h;unfold C2;simp only[Si h,Aa];rw[Ez h0 h1 (by omega),Bx h0 (by omega)];rfl
theorem F8 {k:Int}(h0:0<=k):Cs k=some (1+k % 2):=by
 unfold Cs;dsimp only;rw[Bx h0 (by omega)];simp only[Aa];rw[Aj (by omega)]
theorem Nw {d:Int×(Int×(Int×Int))}{n:Int}(h:DOk d)(h0:0<=n)(h1:n<=9223372036854775807)(h7:7<=Bn d n):Ev (d,n)=some (A5 d n,(Fb d n,(Dt d n,true))):=by
 have hp:=Dk h;have ht:=h.2.2.1;have:Bn d n<per d:=Int.emod_lt_of_pos _ (by omega);unfold Ev;simp only[K9 h h0 h1,Aa];rw[Aj (by omega),Ez (by omega) (by omega) (by omega),Bx (by omega) (by omega),dt h7];rfl
theorem Al8 {d:Int×(Int×(Int×Int))}{n:Int}(h:DOk d)(h0:0<=n)(h1:n<=9223372036854775807)(h7:¬7<=Bn d n):∃a b,Ev (d,n)=some (A5 d n,(a,(b,false))):=by
 have hp:=Dk h;have ht:=h.2.2.1;have:0<=Bn d n:=Int.emod_nonneg _ (by omega);unfold Ev;simp only[K9 h h0 h1,Aa];rw[Aj (by omega),df h7];unfold E5 Dd;rw[if_neg (by omega),if_neg (by omega)];exact⟨_,_,rfl⟩
theorem Qn {d:Int×(Int×(Int×Int))}{n:Int}(h:DOk d)(h0:0<=n)(h7:7<=Bn d n):F5 (d,n)=some (Fb d n,Dt d n):=by
 have hp:=Dk h;have ht:=h.2.2.1;have:Bn d n<per d:=Int.emod_lt_of_pos _ (by omega);unfold F5;simp only[Hb h,Aa];rw[Bx h0 (by omega)];simp only[Aa];have e:n % per d=Bn d n:=rfl;rw[e,Aj (by omega),Ez (by omega) (by omega) (by omega),Bx (by omega) (by omega)];rfl
def Hc (d:Int×(Int×(Int×Int)))(n:Int):Prop:=DOk d/\0<=n/\n<Aq d/\
 (if Bn d n<5 then Bn d n<inP (tkp d (A5 d n))else if Bn d n<7 then Bn d n - 5<Q5 (tkp d (A5 d n))else 0<=stp d (A5 d n) (Fb d n) (1+Dt d n % 2))
instance (d:Int×(Int×(Int×Int)))(n:Int):Decidable (Hc d n):=by unfold Hc;exact inferInstance
theorem Ae9 (d:Int×(Int×(Int×Int)))(n:Int):Fp (d,n)=some (decide (Hc d n)):=by
 unfold Fp;simp only[Dq,Aa];by_cases h0:n<0
 ·rw[dt h0,cond_true,df (fun e=>by have:=e.2.1;omega)]
 rw[df h0,cond_false];by_cases h:DOk d
 ·rw[if_pos h];by_cases h1:Aq d<=n
  ·rw[dt h1,cond_true,df (fun e=>by have:=e.2.2.1;omega)]
  have hn:=Bo h;have hm:=By h.1 h.2.1;have hp:=Dk h;obtain⟨⟨ht0,ht1⟩,⟨hp0,hp1⟩,_⟩:=Ii h (n:=n) (by omega) (by omega);simp only[df h1,cond_false,Hb h,Aa];rw[Ez (by omega) (by omega) (by omega),Bx (by omega) (by omega)];have e1:n/per d=A5 d n:=rfl;have e2:n % per d=Bn d n:=rfl;have e3:tk d (A5 d n)=tkp d (A5 d n):=by unfold tk;rw[if_pos ⟨h,ht0,ht1⟩]
  simp only[Aa,e1,e2,Ql d (A5 d n) (by omega),e3,Sj,Lx];by_cases q5:Bn d n<5
  ·rw[dt q5,cond_true]
   congr 1
   rw[decide_eq_decide];unfold Hc;rw[if_pos q5]
   exact⟨fun e=>⟨h,by omega,by omega,e⟩,fun e=>e.2.2.2⟩
  rw[df q5,cond_false];by_cases q7:Bn d n<7
  ·rw[dt q7,cond_true,Aj (by omega)]
   congr 1
   rw[decide_eq_decide];unfold Hc;rw[if_neg q5,if_pos q7]
   exact⟨fun e=>⟨h,by omega,by omega,e⟩,fun e=>e.2.2.2⟩
  obtain⟨⟨hd0,hd1⟩,⟨hk0,hk1⟩,_⟩:=Nv h (n:=n) (by omega) (by omega) (by omega);have ht:=h.2.2.1;rw[df q7,cond_false,Qn h (by omega) (by omega)];simp only[Aa];rw[Bx hk0 (by omega)];simp only[Aa];rw[Aj (by omega),Wp h ht0 ht1 ⟨hd0,hd1⟩ (by omega)];simp only[Aa]
  congr 1
  rw[decide_eq_decide];unfold Hc;rw[if_neg q5,if_neg q7]
  exact⟨fun e=>⟨h,by omega,by omega,e⟩,fun e=>e.2.2.2⟩
 ·rw[if_neg h,dt (by omega),cond_true,df (fun e=>h e.1)]
theorem Afa (d:Int×(Int×(Int×Int)))(n:Int):Fo (d,n)=some (decide (Hc d n)):=by
 unfold Fo;simp only[Io,Aa];by_cases h:DOk d
 ·have hn:=Bo h;have hm:=By h.1 h.2.1;have hp:=Dk h;simp only[dt h,Bool.not_true,cond_false,Dr h,Aa];rw[Aj (by omega),B4];simp only[Aa];by_cases h1:0<=n/\n<=Aq d - 1
  ·obtain⟨⟨ht0,ht1⟩,⟨hp0,hp1⟩,_⟩:=Ii h (n:=n) (by omega) (by omega);simp only[dt h1,Bool.not_true,cond_false,K9 h h1.1 (by omega),Aa];rw[Of d _ h ht0 (by omega)];simp only[Aa,Y2,Wl];by_cases q5:Bn d n<5
   ·rw[dt q5,cond_true]
    congr 1
    rw[decide_eq_decide];unfold Hc;rw[if_pos q5]
    exact⟨fun e=>⟨h,by omega,by omega,e⟩,fun e=>e.2.2.2⟩
   rw[df q5,cond_false];by_cases q7:Bn d n<7
   ·rw[dt q7,cond_true,Aj (by omega)]
    congr 1
    rw[decide_eq_decide];unfold Hc;rw[if_neg q5,if_pos q7]
    exact⟨fun e=>⟨h,by omega,by omega,e⟩,fun e=>e.2.2.2⟩
   obtain⟨⟨hd0,hd1⟩,⟨hk0,hk1⟩,_⟩:=Nv h (n:=n) (by omega) (by omega) (by omega);have ht:=h.2.2.1;rw[df q7,cond_false,Nw h (by omega) (by omega) (by omega)];simp only[Aa];rw[F8 hk0];simp only[Aa];rw[Sl h ht0 ht1 ⟨hd0,hd1⟩ (by omega)];simp only[Aa]
   congr 1
   rw[decide_eq_decide];unfold Hc;rw[if_neg q5,if_neg q7]
   exact⟨fun e=>⟨h,by omega,by omega,e⟩,fun e=>e.2.2.2⟩
  ·rw[df h1];simp only[Bool.not_false,cond_true];rw[df (fun e=>h1 ⟨e.2.1,by have:=e.2.2.1;omega⟩)]
 ·rw[df h];simp only[Bool.not_false,cond_true];rw[df (fun e=>h e.1)]
def C5 (d:Int×(Int×(Int×Int)))(n:Int):Prop:=Hc d n/\7<=Bn d n
instance (d:Int×(Int×(Int×Int)))(n:Int):Decidable (C5 d n):=by unfold C5;exact inferInstance
theorem Sm (d:Int×(Int×(Int×Int)))(n:Int):K3 (d,n)=some (decide (C5 d n)):=by
 unfold K3;simp only[Ae9,Aa];by_cases h:Hc d n
 ·have hp:=Dk h.1;simp only[dt h,cond_true,Hb h.1,Aa];rw[Bx h.2.1 (by omega)];simp only[Aa]
  congr 1
  rw[decide_eq_decide];exact⟨fun e=>⟨h,e⟩,fun e=>e.2⟩
 ·rw[df h,cond_false,df (fun e=>h e.1)]
theorem Nx (d:Int×(Int×(Int×Int)))(n:Int):Fz (d,n)=some (decide (C5 d n)):=by
 unfold Fz;simp only[Afa,Aa];by_cases h:Hc d n
 ·have hn:=Bo h.1;have h3:=h.2.2.1;simp only[dt h,Bool.not_true,cond_false];by_cases h7:7<=Bn d n
  ·rw[Nw h.1 h.2.1 (by omega) h7,dt ⟨h,h7⟩];rfl
  ·obtain⟨a,b,e⟩:=Al8 h.1 h.2.1 (by omega) h7;rw[e,df (fun e=>h7 e.2)];rfl
 ·rw[df h,df (fun e=>h e.1)];rfl
end Go.Pf
/-
  Own work. Paths by predecessors: the program's and the reference's, plainly.
-/
namespace Go.Pf
open Go Go.Pu
noncomputable def Avr (p:List Int)(v:Int×List Int):Option ((Int×List Int)⊕List Int):=
 let v14:Bool:=decide (0<=v.1)
 bif v14 then(
  (gin (p).length v.1).bind fun _=>
  (Ak 0 p v.1).bind fun v16=>
  let v17:List Int:=[v16]
  (A3 8 v.2 v17).bind fun v18=>
  let v19:Int:=wrap .i64 (v.1 - 1)
  some (.inl (v19,v18)))else
 Option.map Sum.inr (
  some v.2)
theorem Asy (p:List Int):∀(n:Nat) (acc:List Int),n<=p.length->p.length<=2097152->acc.length+n<=4194304->loop (Avr p) ((n:Int) - 1,acc)=some (acc++(p.take n).reverse)
 | 0,acc,_,_,_=>by
  rw[Cq];simp[Avr]
 | n+1,acc,hn,hp,ha=>by
  rw[Cq];have e1:decide ((0:Int)<=((n+1:Nat):Int) - 1)=true:=decide_eq_true (by omega);have hi:((n+1:Nat):Int) - 1=(n:Int):=by omega
  simp only[Avr,e1,cond_true];rw[hi,Cn (by omega) (by omega),Bq (by omega) (by omega)];simp only[Aa];rw[Br (by simp;omega) (by simp;omega)];simp only[Aa];rw[An2 (by omega) (by omega)];rw[Asy p n _ (by omega) hp (by simp;omega)];have hlt:n<p.length:=by omega
  have:p.take (n+1)=p.take n++[p[n]]:=by rw[List.take_append_getElem hlt]
  rw[this,List.reverse_append];simp[List.getD,hlt]
end Go.Pf
/-
  Own work. The law of paths, plainly: it says true.
-/
namespace Go.Pf
open Go Go.Pu
end Go.Pf
/-
  Own work. Wires: what they reach, and how many a route has; helpers of the laws.
-/
namespace Go.Pf
open Go Go.Pu
theorem gapp_ok {xs ys:List Int}(h:xs.length+ys.length<=10000000000):A3 8 xs ys=some (xs++ys):=Br (by omega) (by omega)
def Qz (d:Int×(Int×(Int×Int)))(n:Int)(k:Nat):List Int:=(List.range k).map fun(j:Nat)=>stp d (A5 d n) (Fb d n) ((j:Int)+1)
theorem Ab7 (d:Int×(Int×(Int×Int)))(n:Int)(k:Nat):Qz d n (k+1)=Qz d n k++[stp d (A5 d n) (Fb d n) ((k:Int)+1)]:=by
 unfold Qz;rw[List.range_succ,List.map_append];rfl
theorem J5 (d:Int×(Int×(Int×Int)))(n:Int)(k:Nat):(Qz d n k).length=k:=by simp[Qz]
def Ck (d:Int×(Int×(Int×Int)))(n:Int):List Int:=if C5 d n then Qz d n (1+Dt d n % 2).toNat else []
theorem Ag1 (d:Int×(Int×(Int×Int)))(n:Int):Hm (d,n)=some (Ck d n):=by
 unfold Hm Ck;simp only[Sm,Aa];by_cases h:C5 d n
 ·have hd:=h.1.1;obtain⟨⟨ht0,ht1⟩,⟨hp0,hp1⟩,_⟩:=Ii hd h.1.2.1 h.1.2.2.1;obtain⟨hdir,⟨hk0,hk1⟩,_⟩:=Nv hd h.1.2.1 h.2 h.1.2.2.1;have hn:=Bo hd;have hp:=Dk hd;have h3:=h.1.2.2.1;simp only[dt h,Bool.not_true,cond_false,Qn hd h.1.2.1 h.2,Aa,if_pos h];refine Ao (1+Dt d n % 2).toNat (fun k=>((k:Int)+1,Qz d n k)) (fun k hk=> ?_) ?_
  ·dsimp only;rw[Bx hk0 (by omega)];simp only[Aa];rw[Aj (z:=1+Dt d n % 2) (by omega),dt (by omega),cond_true,Hb hd];simp only[Aa];rw[Ez h.1.2.1 (by omega) (by omega)];simp only[Aa];have e:n/per d=A5 d n:=rfl;rw[e,Wp hd ht0 ht1 hdir (by omega)];simp only[Aa];rw[gapp_ok (by rw[J5];simp;omega),Ab7];simp only[Aa];rw[Aj (by omega)];rfl
  ·dsimp only;rw[Bx hk0 (by omega)];simp only[Aa];rw[Aj (z:=1+Dt d n % 2) (by omega),df (by omega),cond_false];rfl
 ·rw[df h,if_neg h];rfl
theorem Ag2 (d:Int×(Int×(Int×Int)))(n:Int):Ea (d,n)=some (Ck d n):=by
 unfold Ea Ck;simp only[Nx,Aa];by_cases h:C5 d n
 ·have hd:=h.1.1;obtain⟨⟨ht0,ht1⟩,⟨hp0,hp1⟩,_⟩:=Ii hd h.1.2.1 h.1.2.2.1;obtain⟨hdir,⟨hk0,hk1⟩,_⟩:=Nv hd h.1.2.1 h.2 h.1.2.2.1;have hn:=Bo hd;have hp:=Dk hd;have h3:=h.1.2.2.1;simp only[dt h,Bool.not_true,cond_false,Nw hd h.1.2.1 (by omega) h.2,Aa,if_pos h];refine Ao (1+Dt d n % 2).toNat (fun k=>(Qz d n k,(k:Int)+1)) (fun k hk=> ?_) ?_
  ·dsimp only;rw[F8 hk0];simp only[Aa];rw[dt (by omega),cond_true,Sl hd ht0 ht1 hdir (by omega)];simp only[Aa];rw[gapp_ok (by rw[J5];simp;omega),Ab7];simp only[Aa];rw[Aj (by omega)];rfl
  ·dsimp only;rw[F8 hk0];simp only[Aa];rw[df (by omega),cond_false];rfl
 ·rw[df h,if_neg h];rfl
theorem Ajl (d:Int×(Int×(Int×Int)))(n:Int):(Ck d n).length<=2:=by
 unfold Ck;split
 ·rw[J5];omega
 ·simp
end Go.Pf
/-
  Own work. The laws' helpers for lists: sizes, copies, comparisons.
-/
namespace Go.Pf
open Go Go.Pu
set_option linter.unusedVariables false
abbrev Dev:=Int×(Int×(Int×Int))
abbrev Pin:=Int×Int
abbrev B7:=Int×(Pin×List Pin)
def Ayh (c:B7):Prop:=c.2.2.length<=1048576
def Uf (xs:List B7):Prop:=xs.length<=1048576/\∀x∈xs,Ayh x
end Go.Pf
/-
  Own work. Placements, plainly.
-/
namespace Go.Pf
open Go Go.Pu
def bt (k:Int):Int:=if k=0 then 0 else if k=1 then 0 else if k=2 then 2 else if k=3 then 1 else -1
theorem Avs (k:Int):Jc k=some (bt k):=by
 unfold Jc bt;by_cases h0:k=0
 ·simp[h0]
 ·by_cases h1:k=1
  ·simp[h1]
  ·by_cases h2:k=2
   ·simp[h2]
   ·by_cases h3:k=3
    ·simp[h3]
    ·simp[h0,h1,h2,h3]
theorem O8 (xs:List Int)(x:Int)(h:xs.length<=4611686018427387904):Et (xs,x)=some (decide (x∈xs)):=by
 unfold Et;dsimp only;have e:=Cl (f:=fun(v2:Int)=>
  let v3:Bool:=decide (v2<(xs.length:Int))
  bif v3 then(
   (Ak 0 xs v2).bind fun v4=>
   let v5:Bool:=decide (v4=x)
   bif v5 then(
    Option.map Sum.inr (
     some true))else
   let v6:Int:=wrap .i64 (v2+1)
   some (.inl v6))else
  Option.map Sum.inr (
   some false)) xs.length (fun k=>(k:Int)) (fun k=>if hk:k<xs.length then decide (xs[k]≠x)else true) true false (fun k hk hok=>by
   rw[dif_pos hk]at hok;have hne:=of_decide_eq_true hok;dsimp only;rw[dt (by omega),cond_true,Ar hk];simp only[Aa];rw[df hne,cond_false,Aj (by omega)];rfl) (fun k hk hok=>by
   rw[dif_pos hk]at hok;have he:=of_decide_eq_false hok;dsimp only;rw[dt (by omega),cond_true,Ar hk];simp only[Aa];rw[dt (by simpa using he),cond_true];rfl) (by
   dsimp only;rw[df (by omega),cond_false];rfl)
 rw[Bt xs (fun y=>decide (y≠x)) _ (fun k hk=>by rw[dif_pos hk])]at e;refine Eq.trans e ?_
 congr 1
 by_cases hm:x∈xs
 ·rw[dt hm,if_neg];intro ha;rw[List.all_eq_true]at ha;exact of_decide_eq_true (ha x hm) rfl
 ·rw[df hm,if_pos];rw[List.all_eq_true];intro y hy;exact decide_eq_true (fun e=>hm (e▸hy))
theorem Wq (xs:List Int)(x:Int)(h:xs.length<=4611686018427387904):D6 (xs,x)=some (decide (x∈xs)):=O8 xs x h
def Azl (d:Int×(Int×(Int×Int)))(bs ps:List Int)(k:Nat):Bool:=
 if h:k<bs.length/\k<ps.length then decide (0<=tk d (ps[k]'h.2)/\tk d (ps[k]'h.2)=bt (bs[k]'h.1)/\ps[k]'h.2∉ps.take k)else true
def Al9 (d:Int×(Int×(Int×Int)))(bs ps:List Int):Bool:=decide (DOk d/\bs.length<=64/\ps.length=bs.length) && (List.range bs.length).all (Azl d bs ps)
def E0 (N:Nat)(xs:List Int):List Bool:=(List.range N).map fun(t:Nat)=>decide ((t:Int)∈xs)
theorem Hr (N:Nat)(xs:List Int)(t:Nat)(h:t<N):Ak false (E0 N xs) (t:Int)=some (decide ((t:Int)∈xs)):=by
 unfold E0;rw[Ar (by simpa using h)];simp
theorem Ep (N:Nat)(xs:List Int):(E0 N xs).length=N:=by simp[E0]
theorem Tw (N:Nat)(xs:List Int)(t:Nat)(_h:t<N):A8 (E0 N xs) (t:Int) true=E0 N (xs++[(t:Int)]):=by
 rw[B8];apply List.ext_getElem?;intro j;by_cases hj:j<N
 ·by_cases he:t=j
  ·subst he;rw[List.getElem?_set_self (by rw[Ep];exact hj)];simp[E0,hj]
  ·rw[List.getElem?_set_ne he];simp only[E0,List.getElem?_map,List.getElem?_range hj,Option.map_some,List.mem_append,List.mem_singleton]
   congr 1
   rw[decide_eq_decide]
   constructor
   ·exact fun q=>Or.inl q
   ·rintro(q | q)
    ·exact q
    ·omega
 ·rw[List.getElem?_eq_none (by rw[List.length_set,Ep];omega),List.getElem?_eq_none (by rw[Ep];omega)]
theorem Tx (N:Nat):List.replicate N false=E0 N []:=by
 apply List.ext_getElem?;intro j;by_cases hj:j<N
 ·simp[E0,hj]
 ·rw[List.getElem?_eq_none (by simp;omega),List.getElem?_eq_none (by rw[Ep];omega)]
theorem Ab8 {xs:List Int}{k:Nat}(h:k<=xs.length):Bs xs 0 (k:Int)=some (xs.take k):=by
 unfold Bs;rw[if_pos (by omega)];simp
end Go.Pf
/-
  Own work. Routes' use of nodes, plainly.
-/
namespace Go.Pf
open Go Go.Pu
set_option linter.unusedVariables false
abbrev Rt:=List Int×List Int
def A40 (r:Rt):Prop:=r.1.length<=1048576/\r.2.length<=1048576
def RtB (b:Int)(r:Rt):Prop:=(r.1.length:Int)+(r.2.length:Int)<=b
def Ajm (rs:List Rt):Prop:=rs.length<=1048576/\∀r∈rs,A40 r
def Azm (rs:List Rt):Prop:=rs.length<=1048576/\∀r∈rs,RtB (1048576 - rs.length) r
theorem Azm.ok {rs:List Rt}(h:Azm rs):Ajm rs:=⟨h.1,fun r hr=>by
 have:=h.2 r hr;unfold RtB at this;exact⟨by omega,by omega⟩⟩
theorem Aqd (m:List (Int×Bool))(k:Int)(b:Bool)(x:Int):mget (mset m k b) x=if x=k then b else mget m x:=by
 induction m with
 | nil=>
  unfold mset mget;by_cases h:x=k
  ·subst h;simp
  ·rw[if_neg h];have:(k==x)=false:=by simp;omega
   simp[this]
 | cons e m ih=>
  unfold mset;by_cases hk:k=e.1
  ·rw[if_pos (by simpa using hk)];by_cases h:x=k
   ·subst h;simp[mget]
   ·rw[if_neg h];have h1:(k==x)=false:=by simp;omega
    have h2:(e.1==x)=false:=by simp;omega
    simp[mget,h1,h2]
  ·rw[if_neg (by simpa using hk)];by_cases he:e.1=x
   ·rw[if_neg (by omega)];have h2:(e.1==x)=true:=by simp;exact he
    simp[mget,h2]
   ·have h2:(e.1==x)=false:=by simp;exact he
    have e1:mget (e::mset m k b) x=mget (mset m k b) x:=by simp[mget,h2]
    have e2:mget (e::m) x=mget m x:=by simp[mget,h2]
    rw[e1,e2];exact ih
def Am (ns:List Int)(j:Nat):Int:=ns.getD j 0
def inN (N:Nat)(x:Int):Prop:=0<=x/\x<(N:Int)
instance (N:Nat)(x:Int):Decidable (inN N x):=by unfold inN;exact inferInstance
def cnT (N:Nat)(ns:List Int)(c0:List Int):Nat->List Int
 | 0=>c0
 | j+1=>if inN N (Am ns j)/\Am ns j∉ns.take j then A8 (cnT N ns c0 j) (Am ns j) (wrap .i64 ((cnT N ns c0 j).getD (Am ns j).toNat 0+1))else cnT N ns c0 j
theorem Wr (N:Nat)(ns:List Int)(c0:List Int)(j:Nat):(cnT N ns c0 j).length=c0.length:=by
 induction j with
 | zero=>rfl
 | succ j ih=>
  unfold cnT;split
  ·unfold A8;rw[List.length_set];exact ih
  ·exact ih
def mpT (N:Nat)(ns:List Int):Nat->List (Int×Bool)
 | 0=>[]
 | j+1=>if inN N (Am ns j)/\Am ns j∉ns.take j then mset (mpT N ns j) (Am ns j) true else mpT N ns j
theorem D3 {ns:List Int}{j:Nat}(h:j<ns.length):ns.take (j+1)=ns.take j++[Am ns j]:=by
 rw[Bu ns j h];unfold Am;rw[List.getD,List.getElem?_eq_getElem h];rfl
theorem Avt (N:Nat)(ns:List Int)(x:Int)(j:Nat):j<=ns.length->mget (mpT N ns j) x=decide (inN N x/\x∈ns.take j):=by
 induction j with
 | zero=>intro _;simp[mpT,mget]
 | succ j ih=>
  intro hj;have ih:=ih (by omega);rw[D3 (by omega)];unfold mpT;by_cases q:inN N (Am ns j)/\Am ns j∉ns.take j
  ·rw[if_pos q,Aqd,ih];by_cases hx:x=Am ns j
   ·rw[if_pos hx];subst hx;rw[dt ⟨q.1,by simp⟩]
   ·rw[if_neg hx,decide_eq_decide];simp[hx]
  ·rw[if_neg q,ih,decide_eq_decide]
   constructor
   ·exact fun e=>⟨e.1,by simp[e.2]⟩
   ·rintro⟨e1,e2⟩
    refine⟨e1,?_⟩;rcases List.mem_append.1 e2 with e3 | e3
    ·exact e3
    ·have hx:=List.mem_singleton.1 e3;subst hx;exact Decidable.byContradiction fun c=>q ⟨e1,c⟩
theorem Aqe (N:Nat)(xs:List Int)(x:Int)(h:¬(inN N x/\x∉xs)):E0 N (xs++[x])=E0 N xs:=by
 unfold E0;apply List.map_congr_left;intro t ht;have ht:=List.mem_range.1 ht;rw[decide_eq_decide]
 constructor
 ·intro e;rcases List.mem_append.1 e with e3 | e3
  ·exact e3
  ·have hx:=List.mem_singleton.1 e3;exact Decidable.byContradiction fun c=>h ⟨⟨by omega,by omega⟩,by rw[<-hx];exact c⟩
 ·exact fun e=>List.mem_append_left _ e
def ldT (N:Nat)(rs:List Rt)(skip:Int):Nat->List Int
 | 0=>List.replicate N 0
 | k+1=>if(k:Int)=skip then ldT N rs skip k else cnT N (rs.getD k ([],[])).1 (ldT N rs skip k) (rs.getD k ([],[])).1.length
theorem Tz (N:Nat)(rs:List Rt)(skip:Int)(k:Nat):(ldT N rs skip k).length=N:=by
 induction k with
 | zero=>simp[ldT]
 | succ k ih=>unfold ldT;split;exact ih;rw[Wr];exact ih
theorem An8 {rs:List Rt}{k:Nat}(h:k<rs.length):rs.getD k ([],[])=rs[k]:=by rw[List.getD,List.getElem?_eq_getElem h];rfl
theorem Dm {ns:List Int}{j:Nat}(h:j<ns.length):ns[j]=Am ns j:=by unfold Am;rw[List.getD,List.getElem?_eq_getElem h];rfl
theorem Afb (N:Nat)(rs:List Rt)(skip:Int)(hN:N<=1048576)(h:Ajm rs):Dy ((N:Int),(rs,skip))=some (ldT N rs skip rs.length):=by
 obtain⟨hl,hr⟩:=h;unfold Dy;dsimp only;rw[Bz (by omega) (by omega)];simp only[Aa];refine Ao rs.length (fun k=>((k:Int),ldT N rs skip k)) (fun k hk=> ?_) ?_
 ·dsimp only;rw[dt (by omega),cond_true];by_cases q:(k:Int)=skip
  ·rw[dt q,cond_true,Aj (by omega)];have e:ldT N rs skip (k+1)=ldT N rs skip k:=by show(if _ then _ else _)=_;rw[if_pos q]
   rw[e];rfl
  rw[df q,cond_false,Bz (by omega) (by omega)];simp only[Aa];have e:ldT N rs skip (k+1)=cnT N (rs[k]).1 (ldT N rs skip k) (rs[k]).1.length:=by
   show(if _ then _ else _)=_;rw[if_neg q,An8 hk]
  rw[e];have hrk:=(hr _ (List.getElem_mem hk)).1;generalize hns:(rs[k]).1=ns at*;have hc:=Tz N rs skip k;generalize ldT N rs skip k=c0 at*;have e0:((0:Int),(c0,List.replicate N false))=(fun j:Nat=>((j:Int),(cnT N ns c0 j,E0 N (ns.take j)))) 0:=by
   simp only[List.take_zero];rw[Tx];rfl
  rw[e0];refine Ao ns.length (fun j=>((j:Int),(cnT N ns c0 j,E0 N (ns.take j)))) (fun j hj=> ?_) ?_
  ·have hcl:=Wr N ns c0 j;dsimp only;rw[Ar hk];simp only[Aa];rw[hns,dt (by omega),cond_true,Ar hj,Dm hj,D3 hj,Aj (z:=(j:Int)+1) (by omega)];simp only[Aa];by_cases q1:inN N (Am ns j)/\Am ns j∉ns.take j
   ·obtain⟨⟨x0,x1⟩,q2⟩:=q1;have e2:cnT N ns c0 (j+1)=A8 (cnT N ns c0 j) (Am ns j) (wrap .i64 ((cnT N ns c0 j).getD (Am ns j).toNat 0+1)):=by
     show(if _ then _ else _)=_;rw[if_pos ⟨⟨x0,x1⟩,q2⟩]
    rw[e2];obtain⟨t,ht⟩:∃t:Nat,Am ns j=(t:Int):=⟨(Am ns j).toNat,by omega⟩;rw[ht]at q2 x0 x1 ⊢;rw[dt x0,cond_true,dt x1,cond_true,Ep,As (by omega),Hr _ _ _ (by omega),df q2];simp only[Aa,Bool.not_false,cond_true];rw[As (by omega),Bq (by omega) (by omega),Tw _ _ _ (by omega)];rfl
   ·have e2:cnT N ns c0 (j+1)=cnT N ns c0 j:=by
     show(if _ then _ else _)=_;rw[if_neg q1]
    rw[e2,Aqe _ _ _ q1];by_cases x0:0<=Am ns j
    ·by_cases x1:Am ns j<(N:Int)
     ·have q2:Am ns j∈ns.take j:=Decidable.byContradiction fun c=>q1 ⟨⟨x0,x1⟩,c⟩
      rw[dt x0,cond_true,dt x1,cond_true];obtain⟨t,ht⟩:∃t:Nat,Am ns j=(t:Int):=⟨(Am ns j).toNat,by omega⟩;rw[ht]at q2 x1 ⊢;rw[Ep,As (by omega),Hr _ _ _ (by omega),dt q2];rfl
     ·rw[dt x0,cond_true,df x1];rfl
    ·rw[df x0];rfl
  ·dsimp only;rw[Ar hk];simp only[Aa];rw[hns,df (by omega),cond_false,Aj (by omega)];rfl
 ·dsimp only;rw[df (by omega),cond_false];rfl
theorem Ab9 (N:Nat)(rs:List Rt)(hN:N<=1048576)(h:Ajm rs):E9 ((N:Int),rs)=some (ldT N rs (-1) rs.length):=by
 obtain⟨hl,hr⟩:=h;unfold E9;dsimp only;rw[Bz (by omega) (by omega)];simp only[Aa];refine Ao rs.length (fun k=>((k:Int),ldT N rs (-1) k)) (fun k hk=> ?_) ?_
 ·dsimp only;rw[dt (by omega),cond_true,Ar hk];simp only[Aa];have e:ldT N rs (-1) (k+1)=cnT N (rs[k]).1 (ldT N rs (-1) k) (rs[k]).1.length:=by
   show(if _ then _ else _)=_;rw[if_neg (by omega),An8 hk]
  rw[e];have hrk:=(hr _ (List.getElem_mem hk)).1;generalize hns:(rs[k]).1=ns at*;have hc:=Tz N rs (-1) k;generalize ldT N rs (-1) k=c0 at*;refine Ao ns.length (fun j=>((j:Int),(cnT N ns c0 j,mpT N ns j))) (fun j hj=> ?_) ?_
  ·have hcl:=Wr N ns c0 j;dsimp only;rw[dt (by omega),cond_true,Ar hj,Dm hj,Aj (z:=(j:Int)+1) (by omega),Aj (z:=(N:Int) - 1) (by omega)];simp only[Aa];rw[B4,Avt N ns _ j (by omega)];simp only[Aa];by_cases q1:inN N (Am ns j)/\Am ns j∉ns.take j
   ·have e2:cnT N ns c0 (j+1)=A8 (cnT N ns c0 j) (Am ns j) (wrap .i64 ((cnT N ns c0 j).getD (Am ns j).toNat 0+1)):=by
     show(if _ then _ else _)=_;rw[if_pos q1]
    have e3:mpT N ns (j+1)=mset (mpT N ns j) (Am ns j) true:=by
     show(if _ then _ else _)=_;rw[if_pos q1]
    rw[e2,e3];obtain⟨⟨x0,x1⟩,q2⟩:=q1;rw[dt (show 0<=Am ns j/\Am ns j<=(N:Int) - 1 by omega),df (show ¬(inN N (Am ns j)/\Am ns j∈ns.take j)from fun e=>q2 e.2)];simp only[Bool.not_false,cond_true];rw[Cn x0 (by omega),Bq x0 (by omega)];rfl
   ·have e2:cnT N ns c0 (j+1)=cnT N ns c0 j:=by
     show(if _ then _ else _)=_;rw[if_neg q1]
    have e3:mpT N ns (j+1)=mpT N ns j:=by
     show(if _ then _ else _)=_;rw[if_neg q1]
    rw[e2,e3];by_cases x0:inN N (Am ns j)
    ·have q2:Am ns j∈ns.take j:=Decidable.byContradiction fun c=>q1 ⟨x0,c⟩
     rw[dt (show 0<=Am ns j/\Am ns j<=(N:Int) - 1 by unfold inN at x0;omega),dt (show inN N (Am ns j)/\Am ns j∈ns.take j from⟨x0,q2⟩)];rfl
    ·rw[df (show ¬(0<=Am ns j/\Am ns j<=(N:Int) - 1)by unfold inN at x0;omega)];rfl
  ·dsimp only;rw[df (by omega),cond_false,Aj (by omega)];rfl
 ·dsimp only;rw[df (by omega),cond_false];rfl
end Go.Pf
/-
  Own work. Networks of look-up tables: the laws' helpers (sizes, copies, comparisons, marks).
-/
namespace Go.Pf
open Go Go.Pu
set_option linter.unusedVariables false
abbrev Seq:=Int×(Int×List Int)
abbrev Lut:=List Int×Int
abbrev Net:=Int×(List Seq×(List Lut×List Int))
def Ayi (b:Int)(s:Seq):Prop:=(s.2.2.length:Int)<=b
def Ayj (b:Int)(l:Lut):Prop:=(l.1.length:Int)<=b
def Asz (ss:List Seq):Prop:=ss.length<=1048576/\∀s∈ss,Ayi (1048576 - ss.length) s
def As0 (ls:List Lut):Prop:=ls.length<=1048576/\∀l∈ls,Ayj (1048576 - ls.length) l
def M3 (n:Net):Prop:=Asz n.2.1/\As0 n.2.2.1/\n.2.2.2.length<=1048576
theorem Asz.at {ss:List Seq}(h:Asz ss){s:Seq}(hs:s∈ss):s.2.2.length<=1048576:=by
 have:=h.2 s hs;unfold Ayi at this;omega
theorem As0.at {ls:List Lut}(h:As0 ls){l:Lut}(hl:l∈ls):l.1.length<=1048576:=by
 have:=h.2 l hl;unfold Ayj at this;omega
end Go.Pf
/-
  Own work. Sorting and inserting, plainly: the reference's sort and the program's insertion into an ascending list.
-/
namespace Go.Pf
open Go Go.Pu
set_option linter.unusedVariables false
theorem J6 {α β:Type}(a:α)(k:α->Option β):B1 (some (.inl a)) k=k a:=rfl
def fm (n:Nat)(g:Nat->List Int):List Int:=(List.range n).flatMap g
theorem Kn (g:Nat->List Int):fm 0 g=[]:=rfl
theorem Hs (n:Nat)(g:Nat->List Int):fm (n+1) g=fm n g++g n:=by
 unfold fm;rw[List.range_succ,List.flatMap_append];simp
theorem Gr {n:Nat}{g:Nat->List Int}{x:Int}:x∈fm n g↔∃k,k<n/\x∈g k:=by
 unfold fm;simp[List.mem_flatMap]
theorem Jr {n:Nat}{g:Nat->List Int}{b:Nat}(h:∀k,k<n->(g k).length<=b):(fm n g).length<=n*b:=by
 induction n with
 | zero=>simp[Kn]
 | succ n ih=>
  rw[Hs,Ad,Nat.succ_mul];have h1:=ih (fun k hk=>h k (by omega));have h2:=h n (by omega);omega
theorem Aca {n:Nat}{g:Nat->List Int}(h1:∀k,k<n->(g k).Nodup)(h2:∀j k,j<k->k<n->∀x∈g j,∀y∈g k,x≠y):(fm n g).Nodup:=by
 induction n with
 | zero=>simp[Kn]
 | succ n ih=>
  rw[Hs,List.nodup_append];refine⟨ih (fun k hk=>h1 k (by omega)) (fun j k hj hk=>h2 j k hj (by omega)),h1 n (by omega),fun x hx y hy=> ?_⟩;obtain⟨j,hj,hx⟩:=Gr.1 hx;exact h2 j n hj (by omega) x hx y hy
def Asc (xs:List Int):Prop:=xs.Pairwise (·<·)
theorem Z7 {xs ys:List Int}(hx:Asc xs)(hy:Asc ys)(h:∀x,x∈xs↔x∈ys):xs=ys:=by
 induction xs generalizing ys with
 | nil=>
  cases ys with
  | nil=>rfl
  | cons b r=>exact absurd ((h b).2 (by simp)) (by simp)
 | cons a xs ih=>
  cases ys with
  | nil=>exact absurd ((h a).1 (by simp)) (by simp)
  | cons b ys=>
   unfold Asc at hx hy;rw[List.pairwise_cons]at hx hy;have e:a=b:=by
    rcases List.mem_cons.1 ((h a).1 (by simp))with e | e
    ·exact e
    rcases List.mem_cons.1 ((h b).2 (by simp))with e' | e'
    ·exact e'.symm
    have:=hy.1 a e;have:=hx.1 b e';omega
   subst e
   congr 1
   refine ih hx.2 hy.2 (fun x=>⟨fun q=> ?_,fun q=> ?_⟩)
   ·rcases List.mem_cons.1 ((h x).1 (List.mem_cons_of_mem _ q))with e | e
    ·have:=hx.1 x q;omega
    ·exact e
   ·rcases List.mem_cons.1 ((h x).2 (List.mem_cons_of_mem _ q))with e | e
    ·have:=hy.1 x q;omega
    ·exact e
def ins:List Int->Int->List Int
 | [],x=>[x]
 | a::r,x=>if a<x then a::ins r x else if a=x then a::r else x::a::r
theorem As1 (a:Int)(r:List Int)(x:Int):ins (a::r) x=if a<x then a::ins r x else if a=x then a::r else x::a::r:=rfl
theorem Z8 {l:List Int}{x y:Int}:y∈ins l x↔y=x\/y∈l:=by
 induction l with
 | nil=>simp[ins]
 | cons a r ih=>
  unfold ins;split
  ·simp only[List.mem_cons,ih]
   constructor
   ·rintro(e | e | e)
    ·exact Or.inr (Or.inl e)
    ·exact Or.inl e
    ·exact Or.inr (Or.inr e)
   ·rintro(e | e | e)
    ·exact Or.inr (Or.inl e)
    ·exact Or.inl e
    ·exact Or.inr (Or.inr e)
  split
  ·rename_i e;subst e;simp
  ·simp
theorem An9 {l:List Int}{x:Int}(h:Asc l):Asc (ins l x):=by
 induction l with
 | nil=>simp[ins,Asc]
 | cons a r ih=>
  unfold Asc at*;have h' :=h;rw[List.pairwise_cons]at h;unfold ins;split
  ·rw[List.pairwise_cons];refine⟨fun y hy=> ?_,ih h.2⟩;rcases Z8.1 hy with e | e
   ·omega
   ·exact h.1 y e
  split
  ·exact h'
  ·rw[List.pairwise_cons];refine⟨fun y hy=> ?_,h'⟩;rcases List.mem_cons.1 hy with e | e
   ·omega
   ·have:=h.1 y e;omega
theorem Aoa (l:List Int)(x:Int):(ins l x).length<=l.length+1:=by
 induction l with
 | nil=>simp[ins]
 | cons a r ih=>
  unfold ins;split
  ·simp only[Ab];omega
  split
  ·simp only[Ab];omega
  ·simp only[Ab];omega
def E1 (l xs:List Int):List Int:=xs.foldl ins l
theorem Ajn (l:List Int):E1 l []=l:=rfl
theorem Sn (l xs ys:List Int):E1 l (xs++ys)=E1 (E1 l xs) ys:=by unfold E1;rw[List.foldl_append]
theorem Ajo (l:List Int)(x:Int):E1 l [x]=ins l x:=rfl
theorem M4 {l xs:List Int}(h:Asc l):Asc (E1 l xs):=by
 induction xs generalizing l with
 | nil=>exact h
 | cons a r ih=>exact ih (An9 h)
theorem O9 {l xs:List Int}{y:Int}:y∈E1 l xs↔y∈l\/y∈xs:=by
 induction xs generalizing l with
 | nil=>simp[E1]
 | cons a r ih=>
  show y∈E1 (ins l a) r↔_;rw[ih,Z8,List.mem_cons]
  constructor
  ·rintro((e | e) | e)
   ·exact Or.inr (Or.inl e)
   ·exact Or.inl e
   ·exact Or.inr (Or.inr e)
  ·rintro(e | e | e)
   ·exact Or.inl (Or.inr e)
   ·exact Or.inl (Or.inl e)
   ·exact Or.inr e
theorem Pa (l xs:List Int):(E1 l xs).length<=l.length+xs.length:=by
 induction xs generalizing l with
 | nil=>simp[E1]
 | cons a r ih=>
  have h1:=ih (ins l a);have h2:=Aoa l a;show(E1 (ins l a) r).length<=_;simp only[Ab];omega
theorem Js:Asc []:=List.Pairwise.nil
theorem Aqf {l1 l2:List Int}{x:Int}(h:∀y∈l1,y<x):ins (l1++l2) x=l1++ins l2 x:=by
 induction l1 with
 | nil=>rfl
 | cons a r ih=>
  show ins (a::(r++l2)) x=a::(r++ins l2 x);rw[<-ih (fun y hy=>h y (List.mem_cons_of_mem _ hy))];have:=h a (by simp);rw[As1,if_pos this]
theorem M5 {xs:List Int}{k:Nat}(h:k<=xs.length):Bs xs (k:Int) (xs.length:Int)=some (xs.drop k):=by
 unfold Bs;rw[if_pos ⟨by omega,by omega,by omega⟩];simp
theorem I4 (l:List Int)(x:Int)(h:l.length<=1000000000):Cd (l,x)=some (ins l x):=by
 have key:∀m:Nat,m<=l.length->(∀k (hk:k<m) (q:k<l.length),l[k]<x)->(∀q:m<l.length,¬l[m]<x)->Cd (l,x)=some (ins l x):=by
  intro m hm h1 h2;have hlt:∀y∈l.take m,y<x:=by
   intro y hy;obtain⟨k,hk,rfl⟩:=List.getElem_of_mem hy;rw[List.length_take]at hk;rw[List.getElem_take];exact h1 k (by omega) (by omega)
  have e0:ins l x=l.take m++ins (l.drop m) x:=by
   rw[<-Aqf hlt,List.take_append_drop]
  unfold Cd;dsimp only;have hloop:Pu.loop (fun(v1:Int)=>
   let v2:Int:=((l).length:Int)
   let v3:Bool:=decide (v1<v2)
   bif v3 then(
    (gin (l).length v1).bind fun _=>
    (Ak 0 l v1).bind fun v5=>
    let v6:Bool:=decide (v5<x)
    bif v6 then(
     let v7:Int:=wrap .i64 (v1+1)
     some (.inl v7))else
    Option.map Sum.inr (
     some (.inl v1)))else
   Option.map Sum.inr (
    some (.inl v1))) 0=some ((.inl (m:Int)):Int⊕List Int):=by
   refine Ao m (fun k=>(k:Int)) (fun k hk=> ?_) ?_
   ·dsimp only;rw[dt (by omega),cond_true,As (by omega),Ar (show k<l.length by omega)];simp only[Aa];rw[dt (h1 k hk (by omega)),cond_true,Aj (by omega)];rfl
   ·dsimp only;by_cases q:m<l.length
    ·rw[dt (by omega),cond_true,As q,Ar q];simp only[Aa];rw[df (h2 q),cond_false];rfl
    ·rw[df (by omega),cond_false];rfl
  dsimp only at hloop;rw[hloop];rw[J6];by_cases q:m<l.length
  ·rw[dt (show(m:Int)<(l.length:Int)by omega),cond_true,As q,Ar q];simp only[Aa];have ed:l.drop m=l[m]::l.drop (m+1):=List.drop_eq_getElem_cons q;by_cases e:l[m]=x
   ·rw[dt e,cond_true,e0]
    conv=>lhs;rw[<-List.take_append_drop m l]
    rw[ed];unfold ins;rw[if_neg (h2 q),if_pos e]
   ·rw[df e,cond_false,Ab8 (by omega)];simp only[Aa];rw[gapp_ok (by simp;omega)];simp only[Aa];rw[gapp_ok (by simp;omega),M5 (by omega)];simp only[Aa];rw[gapp_ok (by simp;omega),e0,ed];unfold ins;rw[if_neg (h2 q),if_neg e];simp
  ·rw[df (show ¬(m:Int)<(l.length:Int)by omega),cond_false,Ab8 (by omega)];simp only[Aa];rw[gapp_ok (by simp;omega)];simp only[Aa];rw[gapp_ok (by simp;omega),M5 (by omega)];simp only[Aa];rw[gapp_ok (by simp;omega),e0];have:l.drop m=[]:=by rw[List.drop_eq_nil_iff];omega
   rw[this];simp[ins]
 have hw:∀(r:List Int),∃m:Nat,m<=r.length/\(∀k (hk:k<m) (q:k<r.length),r[k]<x)/\(∀q:m<r.length,¬r[m]<x):=by
  intro r
  induction r with
  | nil=>exact⟨0,by simp,fun k hk=>by omega,fun q=>by simp at q⟩
  | cons a r ih=>
   obtain⟨m,h1,h2,h3⟩:=ih;by_cases q:a<x
   ·refine⟨m+1,by simp only[Ab];omega,fun k hk q' => ?_,fun q' => ?_⟩
    ·cases k with
     | zero=>exact q
     | succ k=>simp only[List.getElem_cons_succ];exact h2 k (by omega) (by simp only[Ab]at q';omega)
    ·simp only[List.getElem_cons_succ];exact h3 (by simp only[Ab]at q';omega)
   ·exact⟨0,by omega,fun k hk=>by omega,fun _=>q⟩
 obtain⟨m,h1,h2,h3⟩:=hw l;exact key m h1 h2 h3
theorem Afc (xs:List Int)(h:xs.length<=1000000000):∃o,Hi xs=some o/\o.Perm xs/\o.Pairwise (·<=·):=by
 unfold Hi;rw[gapp_ok (by simp;omega)];simp only[Aa,List.nil_append];obtain⟨o,h1,h2⟩:=B6 (f:=fun(v2:(Int×List Int))=>
  let v3:Int:=((v2.2).length:Int)
  let v4:Bool:=decide (v2.1<v3)
  bif v4 then(
   B1 (
    Pu.loop (fun(v5:(Int×List Int))=>
     let v6:Bool:=decide (0<v5.1)
     bif v6 then(
      (gin (v5.2).length v5.1).bind fun _=>
      (Ak 0 v5.2 v5.1).bind fun v8=>
      let v9:Int:=wrap .i64 (v5.1 - 1)
      (gin (v5.2).length v9).bind fun _=>
      (Ak 0 v5.2 v9).bind fun v11=>
      let v12:Bool:=decide (v8<v11)
      bif v12 then(
       (gin (v5.2).length v5.1).bind fun _=>
       (Ak 0 v5.2 v5.1).bind fun v14=>
       let v15:Int:=wrap .i64 (v5.1 - 1)
       (gin (v5.2).length v15).bind fun _=>
       (Ak 0 v5.2 v15).bind fun v17=>
       (gin (v5.2).length v5.1).bind fun _=>
       (Ak 0 v5.2 v5.1).bind fun v19=>
       let v20:Int:=v17
       let v21:List Int:=A8 v5.2 v5.1 v20
       let v22:Int:=wrap .i64 (v5.1 - 1)
       (gin (v21).length v22).bind fun _=>
       (Ak 0 v21 v22).bind fun v24=>
       let v25:Int:=v14
       let v26:List Int:=A8 v21 v22 v25
       let v27:Int:=wrap .i64 (v5.1 - 1)
       some (.inl (v27,v26)))else
      Option.map Sum.inr (
       some (.inl v5.2)))else
     Option.map Sum.inr (
      some (.inl v5.2))) v2) (fun(v5:List Int)=>
    let v6:Int:=wrap .i64 (v2.1+1)
    some (.inl (v6,v5))))else
  Option.map Sum.inr (
   some v2.2)) (fun s=>1<=s.1/\s.2.Perm xs/\(s.2.take s.1.toNat).Pairwise (·<=·)) (fun o=>o.Perm xs/\o.Pairwise (·<=·)) (fun s=>(xs.length - s.1).toNat) (fun s hs=>by
   obtain⟨i,acc⟩:=s;obtain⟨i0,hp,hs⟩:=hs;simp only at i0 hp hs;have hlen:=hp.length_eq;dsimp only;by_cases hi:i<(acc.length:Int)
   ·left
    rw[dt hi,cond_true];obtain⟨n,rfl⟩:∃n:Nat,i=(n:Int):=⟨i.toNat,by omega⟩;have hn:n<acc.length:=by omega
    rw[Int.toNat_natCast]at hs;obtain⟨o,g1,g2⟩:=B6 (f:=fun(v5:(Int×List Int))=>
     let v6:Bool:=decide (0<v5.1)
     bif v6 then(
      (gin (v5.2).length v5.1).bind fun _=>
      (Ak 0 v5.2 v5.1).bind fun v8=>
      let v9:Int:=wrap .i64 (v5.1 - 1)
      (gin (v5.2).length v9).bind fun _=>
      (Ak 0 v5.2 v9).bind fun v11=>
      let v12:Bool:=decide (v8<v11)
      bif v12 then(
       (gin (v5.2).length v5.1).bind fun _=>
       (Ak 0 v5.2 v5.1).bind fun v14=>
       let v15:Int:=wrap .i64 (v5.1 - 1)
       (gin (v5.2).length v15).bind fun _=>
       (Ak 0 v5.2 v15).bind fun v17=>
       (gin (v5.2).length v5.1).bind fun _=>
       (Ak 0 v5.2 v5.1).bind fun v19=>
       let v20:Int:=v17
       let v21:List Int:=A8 v5.2 v5.1 v20
       let v22:Int:=wrap .i64 (v5.1 - 1)
       (gin (v21).length v22).bind fun _=>
       (Ak 0 v21 v22).bind fun v24=>
       let v25:Int:=v14
       let v26:List Int:=A8 v21 v22 v25
       let v27:Int:=wrap .i64 (v5.1 - 1)
       some (.inl (v27,v26)))else
      Option.map Sum.inr (
       some ((.inl v5.2):List Int⊕((Int×List Int)⊕List Int))))else
     Option.map Sum.inr (
      some (.inl v5.2))) (fun s=>∃j:Nat,s.1=(j:Int)/\j<=n/\s.2=(acc.take n).take j++acc[n]::((acc.take n).drop j++acc.drop (n+1))/\∀y∈(acc.take n).drop j,acc[n]<y) (fun o=>∃r,o= .inl r/\r.Perm acc/\(r.take (n+1)).Pairwise (·<=·)) (fun s=>s.1.toNat) (fun s hs2=>by
      obtain⟨z,a⟩:=s;obtain⟨j,ej,hj,ea,hy⟩:=hs2;simp only at ej ea;subst ej ea;dsimp only;have ltn:(acc.take n).length=n:=by rw[List.length_take];omega
      generalize hP:acc.take n=P at*;generalize hR:acc.drop (n+1)=R at*;generalize hx:acc[n]=x at*;have hacc:acc=P++x::R:=by
       rw[<-hP,<-hR,<-hx,<-List.drop_eq_getElem_cons hn,List.take_append_drop]
      have ltj:(P.take j).length=j:=by rw[List.length_take];omega
      have done:(∀y∈P.take j,y<=x)->(P.take j++x::(P.drop j++R)).Perm acc/\((P.take j++x::(P.drop j++R)).take (n+1)).Pairwise (·<=·):=by
       intro hle
       constructor
       ·rw[hacc];have e1:(P.take j++x::(P.drop j++R)).Perm (x::(P.take j++(P.drop j++R))):=List.perm_middle;refine e1.trans ?_
        rw[<-List.append_assoc,List.take_append_drop];exact List.perm_middle.symm
       ·have e2:(P.take j++x::(P.drop j++R)).take (n+1)=P.take j++x::P.drop j:=by
         have:P.take j++x::(P.drop j++R)=(P.take j++x::P.drop j)++R:=by simp
         rw[this,List.take_left'];simp only[Ad,Ab,ltj,List.length_drop,ltn];omega
        rw[e2,List.pairwise_append];have hs' :(P.take j++P.drop j).Pairwise (·<=·):=by rw[List.take_append_drop];exact hs
        rw[List.pairwise_append]at hs';refine⟨hs'.1,?_,?_⟩
        ·rw[List.pairwise_cons];exact⟨fun y q=>Int.le_of_lt (hy y q),hs'.2.1⟩
        ·intro y q z q2;rcases List.mem_cons.1 q2 with e | e
         ·rw[e];exact hle y q
         ·exact hs'.2.2 y q z e
      by_cases j0:j=0
      ·right
       subst j0;rw[df (by omega),cond_false];have:=done (by simp);exact⟨_,rfl,_,rfl,this.1,this.2⟩
      ·obtain⟨m,rfl⟩:∃m,j=m+1:=⟨j - 1,by omega⟩;have hm:m<P.length:=by omega
       have etk:P.take (m+1)=P.take m++[P[m]]:=Bu P m hm;have ltm:(P.take m).length=m:=by rw[List.length_take];omega
       have lall:(P.take (m+1)++x::(P.drop (m+1)++R)).length=acc.length:=by
        rw[hacc];simp only[Ad,Ab,List.length_take,List.length_drop,ltn];omega
       have g1:(P.take (m+1)++x::(P.drop (m+1)++R))[m+1]? =some x:=by
        rw[List.getElem?_append_right (by omega),ltj];simp
       have g2:(P.take (m+1)++x::(P.drop (m+1)++R))[m]? =some P[m]:=by
        rw[List.getElem?_append_left (by omega),etk,List.getElem?_append_right (by omega),ltm];simp
       have hb1:m+1<(P.take (m+1)++x::(P.drop (m+1)++R)).length:=by omega
       have hb2:m<(P.take (m+1)++x::(P.drop (m+1)++R)).length:=by omega
       have e1:(P.take (m+1)++x::(P.drop (m+1)++R))[m+1]=x:=by
        rw[List.getElem?_eq_getElem hb1]at g1;exact Option.some.inj g1
       have e2:(P.take (m+1)++x::(P.drop (m+1)++R))[m]=P[m]:=by
        rw[List.getElem?_eq_getElem hb2]at g2;exact Option.some.inj g2
       have hw:wrap .i64 (((m+1:Nat):Int) - 1)=(m:Int):=by rw[Aj (by omega)];omega
       rw[dt (by omega),cond_true,As hb1,Ar hb1,hw,As hb2,Ar hb2,e1,e2];simp only[Aa];by_cases q:x<P[m]
       ·left
        rw[dt q,cond_true,B8,List.length_set,As hb2,Ar (by rw[List.length_set];exact hb2)];simp only[Aa];rw[B8];refine⟨_,rfl,⟨m,rfl,by omega,?_,?_⟩,by simp only;omega⟩
        ·simp only;have edr:P.drop m=P[m]::P.drop (m+1):=List.drop_eq_getElem_cons hm;rw[edr,etk,List.append_assoc];rw[List.set_append_right _ _ (by omega),List.set_append_right _ _ (by omega),ltm];have:m+1 - m=1:=by omega
         rw[this,Nat.sub_self];simp;rw[edr];rfl
        ·have edr:P.drop m=P[m]::P.drop (m+1):=List.drop_eq_getElem_cons hm;rw[edr];intro y qy;rcases List.mem_cons.1 qy with e | e
         ·rw[e];exact q
         ·exact hy y e
       ·right
        rw[df q,cond_false];have:=done (by
         intro y qy;rw[etk]at qy;have hs' :(P.take (m+1)).Pairwise (·<=·):=hs.sublist (List.take_sublist _ _);rw[etk,List.pairwise_append]at hs';rcases List.mem_append.1 qy with e | e
         ·have:=hs'.2.2 y e P[m] (by simp);omega
         ·have:=List.mem_singleton.1 e;omega)
        exact⟨_,rfl,_,rfl,this.1,this.2⟩) ((n:Int),acc) ⟨n,rfl,Nat.le_refl _,by
         simp only;have ltn:(acc.take n).length=n:=by rw[List.length_take];omega
         have d0:(acc.take n).drop n=[]:=by rw[List.drop_eq_nil_iff];omega
         have d1:(acc.take n).take n=acc.take n:=List.take_of_length_le (by omega);rw[d0,d1,List.nil_append,<-List.drop_eq_getElem_cons hn,List.take_append_drop],by
         have d0:(acc.take n).drop n=[]:=by rw[List.drop_eq_nil_iff,List.length_take];omega
         rw[d0];simp⟩
    obtain⟨r,rfl,g3,g4⟩:=g2;dsimp only at g1;rw[g1];rw[J6,Aj (by omega)];have e3:((n:Int)+1).toNat=n+1:=by omega
    refine⟨_,rfl,⟨by simp only;omega,g3.trans hp,by simp only[e3];exact g4⟩,by simp only;omega⟩
   ·right
    rw[df hi,cond_false];refine⟨acc,rfl,hp,?_⟩;rw[List.take_of_length_le (by omega)]at hs;exact hs) (1,xs) ⟨by simp,List.Perm.refl _,by
     simp only;cases xs with
     | nil=>simp
     | cons a r=>simp⟩
 exact⟨o,h1,h2⟩
theorem Ama {xs:List Int}(h:xs.length<=1000000000)(hn:xs.Nodup):Hi xs=some (E1 [] xs):=by
 obtain⟨o,h1,h2,h3⟩:=Afc xs h;rw[h1]
 congr 1
 have hn2:o.Nodup:=h2.nodup_iff.2 hn;have ha:Asc o:=by
  unfold Asc;have:=List.Pairwise.and h3 hn2;exact this.imp (fun q=>by omega)
 exact Z7 ha (M4 Js) (fun x=>by rw[O9,h2.mem_iff];simp)
end Go.Pf
/-
  Own work. Cuts by a line, plainly.
-/
namespace Go.Pf
open Go Go.Pu
set_option linter.unusedVariables false
def Ws (d:Int×(Int×(Int×Int)))(n:Int):Int:=stp d (A5 d n) (Fb d n) (1+Dt d n % 2)
def So (d:Int×(Int×(Int×Int)))(row:Bool)(c t:Int):Bool:=bif row then decide (t/d.1<=c)else decide (t % d.1<=c)
def Ip (d:Int×(Int×(Int×Int)))(row:Bool)(c n:Int):Bool:=decide (C5 d n) && (So d row c (A5 d n) !=So d row c (Ws d n))
theorem Og {d:Int×(Int×(Int×Int))}{t dir len:Int}(h:DOk d)(h0:0<=stp d t dir len):stp d t dir len % d.1=Gq d t dir len/\stp d t dir len/d.1=Gg d t dir len/\stp d t dir len<d.1*d.2.1/\((0<=Gq d t dir len/\Gq d t dir len<=d.1 - 1)/\(0<=Gg d t dir len/\Gg d t dir len<=d.2.1 - 1)):=by
 have hw:=h.1;have e:stp d t dir len=if(0<=Gq d t dir len/\Gq d t dir len<=d.1 - 1)/\(0<=Gg d t dir len/\Gg d t dir len<=d.2.1 - 1)then Gg d t dir len*d.1+Gq d t dir len else -1:=rfl
 by_cases q:(0<=Gq d t dir len/\Gq d t dir len<=d.1 - 1)/\(0<=Gg d t dir len/\Gg d t dir len<=d.2.1 - 1)
 ·rw[if_pos q]at e;rw[e];generalize Gq d t dir len=x at*;generalize Gg d t dir len=y at*;have e1:(y*d.1+x) % d.1=x:=by
   rw[Int.add_comm,Int.add_mul_emod_self_right];exact Int.emod_eq_of_lt (by omega) (by omega)
  have e2:(y*d.1+x)/d.1=y:=by
   rw[Int.add_comm,Int.add_mul_ediv_right _ _ (by omega)];rw[Int.ediv_eq_zero_of_lt (by omega) (by omega)];omega
  refine⟨e1,e2,?_,q⟩;have h1:y*d.1<=(d.2.1 - 1)*d.1:=Int.mul_le_mul_of_nonneg_right (by omega) (by omega);have h2:(d.2.1 - 1)*d.1=d.1*d.2.1 - d.1:=by rw[Int.sub_mul,Int.one_mul,Int.mul_comm]
  omega
 ·rw[if_neg q]at e;omega
theorem Avu {d:Int×(Int×(Int×Int))}{t dir:Int}(hdir:0<=dir/\dir<=3)(h:DOk d)(ht0:0<=t)(ht1:t<d.1*d.2.1)(h2:0<=stp d t dir 2):0<=stp d t dir 1:=by
 obtain⟨⟨x0,x1⟩,⟨y0,y1⟩,_⟩:=Z6 h ht0 ht1;obtain⟨_,_,_,⟨a1,a2⟩,⟨b1,b2⟩⟩:=Og h h2;have hw:=h.1;have q:(0<=Gq d t dir 1/\Gq d t dir 1<=d.1 - 1)/\(0<=Gg d t dir 1/\Gg d t dir 1<=d.2.1 - 1):=by
  have hX:Gq d t dir 2 - t % d.1=2*(Gq d t dir 1 - t % d.1):=by unfold Gq;split;omega;split<;>omega
  have hY:Gg d t dir 2 - t/d.1=2*(Gg d t dir 1 - t/d.1):=by unfold Gg;split;omega;split<;>omega
  omega
 have e:stp d t dir 1=if(0<=Gq d t dir 1/\Gq d t dir 1<=d.1 - 1)/\(0<=Gg d t dir 1/\Gg d t dir 1<=d.2.1 - 1)then Gg d t dir 1*d.1+Gq d t dir 1 else -1:=rfl
 rw[if_pos q]at e;have h1:0<=Gg d t dir 1*d.1:=Int.mul_nonneg q.2.1 (by omega);omega
theorem Aqg {d:Int×(Int×(Int×Int))}{t dir:Int}(row:Bool)(c:Int)(h:DOk d)(ht0:0<=t)(ht1:t<d.1*d.2.1)(h2:0<=stp d t dir 2)(h1:0<=stp d t dir 1)(hs:So d row c t≠So d row c (stp d t dir 1)):So d row c t≠So d row c (stp d t dir 2):=by
 obtain⟨e1,e2,_,_⟩:=Og h h1;obtain⟨g1,g2,_,_⟩:=Og h h2;have hX:Gq d t dir 2 - t % d.1=2*(Gq d t dir 1 - t % d.1):=by unfold Gq;split;omega;split<;>omega
 have hY:Gg d t dir 2 - t/d.1=2*(Gg d t dir 1 - t/d.1):=by unfold Gg;split;omega;split<;>omega
 cases row
 ·simp only[So,cond_false,e1,g1,ne_eq,decide_eq_decide]at hs ⊢;omega
 ·simp only[So,cond_true,e2,g2,ne_eq,decide_eq_decide]at hs ⊢;omega
def J0 (d:Int×(Int×(Int×Int)))(row:Bool)(c:Int)(n:Nat):List Int:=((List.range n).map fun(t:Nat)=>(t:Int)).filter (Ip d row c)
theorem U5 (d:Int×(Int×(Int×Int)))(row:Bool)(c:Int)(n:Nat):J0 d row c (n+1)=bif Ip d row c n then J0 d row c n++[(n:Int)]else J0 d row c n:=by
 unfold J0;rw[List.range_succ,List.map_append,List.filter_append];cases h:Ip d row c n
 ·simp[h]
 ·simp[h]
theorem Yb (d:Int×(Int×(Int×Int)))(row:Bool)(c:Int)(n:Nat):(J0 d row c n).length<=n:=by
 unfold J0;refine Nat.le_trans (List.length_filter_le _ _) ?_
 simp
def Acb (d:Int×(Int×(Int×Int)))(row:Bool)(c:Int):List Int:=J0 d row c (Aq d).toNat
theorem Acc {d:Int×(Int×(Int×Int))}{n:Int}(h:C5 d n):(0<=A5 d n/\A5 d n<d.1*d.2.1)/\(0<=Fb d n/\Fb d n<=3)/\(0<=Dt d n/\Dt d n<=3)/\0<=Ws d n/\(0<=n/\n<=827):=by
 have hd:=h.1.1;obtain⟨⟨ht0,ht1⟩,_,_⟩:=Ii hd h.1.2.1 h.1.2.2.1;obtain⟨hdir,⟨hk0,hk1⟩,_⟩:=Nv hd h.1.2.1 h.2 h.1.2.2.1;have hT:=hd.2.2.1;have h4:=h.1.2.2.2;have h7:=h.2;have hn:=Bo hd;have h3:=h.1.2.2.1;rw[if_neg (by omega),if_neg (by omega)]at h4;exact⟨⟨ht0,ht1⟩,hdir,⟨hk0,by omega⟩,h4,h.1.2.1,by omega⟩
theorem Aqh (d:Int×(Int×(Int×Int)))(n:Int)(k j:Nat)(h:j<k):(Qz d n k)[j]? =some (stp d (A5 d n) (Fb d n) ((j:Int)+1)):=by
 unfold Qz;rw[List.getElem?_map,List.getElem?_range h];rfl
theorem Wt {d:Int×(Int×(Int×Int))}{n:Int}(h:C5 d n):∃m:Nat,(Ck d n).length=m+1/\(m=0\/m=1)/\Ak 0 (Ck d n) (m:Int)=some (Ws d n):=by
 obtain⟨_,_,⟨hk0,hk1⟩,_,_⟩:=Acc h;unfold Ck;rw[if_pos h];refine⟨(Dt d n % 2).toNat,by rw[J5];omega,by omega,?_⟩;have hm:((Dt d n % 2).toNat)<(Qz d n (1+Dt d n % 2).toNat).length:=by rw[J5];omega
 have e:=Aqh d n (1+Dt d n % 2).toNat (Dt d n % 2).toNat (by omega);rw[List.getElem?_eq_getElem hm]at e;rw[Ar hm,e];unfold Ws
 congr 2
 omega
theorem Afd (d:Int×(Int×(Int×Int)))(row:Bool)(c:Int)(h:DOk d):Jk (d,(row,c))=some (Acb d row c):=by
 unfold Jk Acb;have hn:=Bo h;have hw:=h.1;have hp:=Dk h;refine Ao (Aq d).toNat (fun n=>((n:Int),J0 d row c n)) (fun n hn1=> ?_) ?_
 ·have hcl:=Yb d row c n;dsimp only;rw[Dq,if_pos h];simp only[Aa];rw[dt (by omega),cond_true,Ag1,U5];simp only[Aa];rw[Aj (z:=(n:Int)+1) (by omega)];by_cases hq:C5 d n
  ·obtain⟨⟨ht0,ht1⟩,_,_,hl0,_⟩:=Acc hq;obtain⟨m,hm,hm1,hg⟩:=Wt hq;have hms:=(Og h hl0).2.2.1;have hmul:=By h.1 h.2.1;have hl1:Ws d n<=36:=by
    have:Ws d n<d.1*d.2.1:=hms;omega
   rw[hm,df (by omega),cond_false,Hb h];simp only[Aa];rw[Ez (by omega) (by omega) (by omega),Aj (z:=((m+1:Nat):Int) - 1) (by omega),show((m+1:Nat):Int) - 1=(m:Int)from by omega,As (by omega),hg];simp only[Aa];have e:(n:Int)/per d=A5 d n:=rfl;rw[e,Bx ht0 (by omega),Bx hl0 (by omega),Ez ht0 (by omega) (by omega),Ez hl0 (by omega) (by omega)];simp only[Aa];rw[gapp_ok (by simp;omega)];unfold Ip;rw[dt hq,Bool.true_and];cases row
   ·simp only[cond_false,So,Bool.true_xor,bne];cases (!(decide (A5 d n % d.1<=c)==decide (Ws d n % d.1<=c)))<;>rfl
   ·simp only[cond_true,So,Bool.true_xor,bne];cases (!(decide (A5 d n/d.1<=c)==decide (Ws d n/d.1<=c)))<;>rfl
  ·have e:Ck d n=[]:=by unfold Ck;rw[if_neg hq]
   have e2:Ip d row c n=false:=by unfold Ip;rw[df hq];rfl
   rw[e,e2];rfl
 ·dsimp only;rw[Dq,if_pos h];simp only[Aa];rw[df (by omega),cond_false];rfl
theorem Y4 (d:Int×(Int×(Int×Int)))(row:Bool)(c:Int)(h:DOk d)(cl:Int->Option Bool)(hcl:∀t,0<=t->t<=36->cl t=some (So d row c t)):
 Pu.loop (fun(v1:(Int×List Int))=>
 (B3 d).bind fun v2=>
 let v3:Bool:=decide (v1.1<v2)
 bif v3 then(
  (Fz (d,v1.1)).bind fun v4=>
  let v5:Bool:= !v4
  bif v5 then(
   let v6:Int:=wrap .i64 (v1.1+1)
   some (.inl (v6,v1.2)))else
  (C2 (d,v1.1)).bind fun v6=>
  (Ea (d,v1.1)).bind fun v7=>
  let v8:Int:=((v7).length:Int)
  B1 (
   Pu.loop (fun(v9:Int)=>
    let v10:Bool:=decide (v9<v8)
    bif v10 then(
     (gin (v7).length v9).bind fun _=>
     (Ak 0 v7 v9).bind fun v12=>
     (cl v6.1).bind fun v13=>
     (cl v12).bind fun v14=>
     let v15:Bool:=(true ^^ (v13==v14))
     bif v15 then(
      let v16:List Int:=[v1.1]
      (A3 8 v1.2 v16).bind fun v17=>
      Option.map Sum.inr (
       some (.inl v17)))else
     let v16:Int:=wrap .i64 (v9+1)
     some (.inl v16))else
    Option.map Sum.inr (
     some (.inl v1.2))) 0) (fun(v9:List Int)=>
   let v10:Int:=wrap .i64 (v1.1+1)
   some (.inl (v10,v9))))else
 Option.map Sum.inr (
  some v1.2)) (0,([]:List Int))=some (Acb d row c):=by
 unfold Acb;have hn:=Bo h;have hw:=h.1;have hp:=Dk h;have hmul:=By h.1 h.2.1;refine Ao (Aq d).toNat (fun n=>((n:Int),J0 d row c n)) (fun n hn1=> ?_) ?_
 ·have hcl2:=Yb d row c n;dsimp only;rw[Dr h];simp only[Aa];rw[dt (by omega),cond_true,Nx,U5];simp only[Aa];by_cases hq:C5 d n
  ·obtain⟨⟨ht0,ht1⟩,hdir,hk,hl0,_⟩:=Acc hq;have hms:=(Og h hl0).2.2.1;rw[dt hq,K9 h (by omega) (by omega),Ag2];simp only[Bool.not_true,cond_false,Aa];have hlen2:=Ajl d n;have hrs:∀j (hj:j<(Ck d n).length),(Ck d n)[j]=stp d (A5 d n) (Fb d n) ((j:Int)+1)/\0<=(Ck d n)[j]/\(Ck d n)[j]<=36:=by
    intro j hj;have e:(Ck d n)[j]=stp d (A5 d n) (Fb d n) ((j:Int)+1):=by
     unfold Ck at hj ⊢;simp only[if_pos hq,Qz,List.getElem_map,List.getElem_range]
    have hjl:(j:Int)<1+Dt d n % 2:=by
     unfold Ck at hj;rw[if_pos hq,J5]at hj;omega
    have h0:0<=stp d (A5 d n) (Fb d n) ((j:Int)+1):=by
     by_cases hl:(j:Int)+1=1+Dt d n % 2
     ·rw[hl];exact hl0
     ·have h2:1+Dt d n % 2=2:=by omega
      have:(j:Int)+1=1:=by omega
      rw[this];exact Avu hdir h ht0 ht1 (by rw[<-h2];exact hl0)
    have h1:=(Og h h0).2.2.1;exact⟨e,by rw[e];exact h0,by rw[e];omega⟩
   have inner:Pu.loop (fun(v9:Int)=>
    bif decide (v9<((Ck d n).length:Int))then(
     (gin (Ck d n).length v9).bind fun _=>
     (Ak 0 (Ck d n) v9).bind fun v12=>
     (cl (A5 d n)).bind fun v13=>
     (cl v12).bind fun v14=>
     bif(true ^^ (v13==v14))then(
      (A3 8 (J0 d row c n) [(n:Int)]).bind fun v17=>
      Option.map Sum.inr (
       some (Sum.inl (β:=(Int×List Int)⊕List Int) v17)))else
     some (.inl (wrap .i64 (v9+1))))else
    Option.map Sum.inr (
     some (.inl (J0 d row c n)))) 0=some (Sum.inl (bif Ip d row c n then J0 d row c n++[(n:Int)]else J0 d row c n)):=by
    refine Eq.trans (Cl (Ck d n).length (fun j:Nat=>(j:Int)) (fun j=>if hj:j<(Ck d n).length then So d row c (A5 d n)==So d row c (Ck d n)[j]else true) (Sum.inl (J0 d row c n++[(n:Int)])) (Sum.inl (J0 d row c n)) (fun j hj hok=> ?_) (fun j hj hok=> ?_) ?_) ?_
    ·rw[dif_pos hj]at hok;obtain⟨_,r0,r1⟩:=hrs j hj
     try dsimp only
     rw[dt (by omega),cond_true,As hj,Ar hj];simp only[Aa];rw[hcl _ ht0 (by omega),hcl _ r0 r1];simp only[Aa,hok,Bool.xor_self,cond_false];rw[Aj (by omega)];rfl
    ·rw[dif_pos hj]at hok;obtain⟨_,r0,r1⟩:=hrs j hj
     try dsimp only
     rw[dt (by omega),cond_true,As hj,Ar hj];simp only[Aa];rw[hcl _ ht0 (by omega),hcl _ r0 r1,gapp_ok (by simp;omega)];simp only[Aa,hok,Bool.xor_false,cond_true];rfl
    ·try dsimp only
     rw[df (by omega),cond_false];rfl
    ·congr 1
     rw[Bt (Ck d n) (fun r=>So d row c (A5 d n)==So d row c r) _ (fun j hj=>by rw[dif_pos hj])];by_cases hx:So d row c (A5 d n)=So d row c (Ws d n)
     ·have e2:Ip d row c n=false:=by unfold Ip;rw[dt hq,hx];simp
      rw[e2,cond_false,if_pos];rw[List.all_eq_true];intro r hr;obtain⟨j,hj,rfl⟩:=List.getElem_of_mem hr;obtain⟨e,r0,r1⟩:=hrs j hj;rw[beq_iff_eq];have hjl:(j:Int)<1+Dt d n % 2:=by
       unfold Ck at hj;rw[if_pos hq,J5]at hj;omega
      by_cases hl:(j:Int)+1=1+Dt d n % 2
      ·rw[e,hl];exact hx
      ·have h2:1+Dt d n % 2=2:=by omega
       have h1:(j:Int)+1=1:=by omega
       rw[h1]at e;refine Decidable.byContradiction fun hc=> ?_
       rw[e]at hc r0;have h20:0<=stp d (A5 d n) (Fb d n) 2:=by rw[<-h2];exact hl0
       refine Aqg row c h ht0 ht1 h20 r0 hc ?_
       rw[<-h2];exact hx
     ·have e2:Ip d row c n=true:=by unfold Ip;rw[dt hq];simp[hx]
      rw[e2,cond_true,if_neg];rw[List.all_eq_true];intro hall;obtain⟨m,hm,_,hg⟩:=Wt hq;have hm' :m<(Ck d n).length:=by omega
      rw[Ar hm']at hg;have:=hall _ (List.getElem_mem hm');rw[Option.some.inj hg,beq_iff_eq]at this;exact hx this
   have e4:=congrArg (fun o=>B1 o (fun(v9:List Int)=>(some (.inl (wrap .i64 ((n:Int)+1),v9)):Option ((Int×List Int)⊕List Int)))) inner;refine Eq.trans e4 ?_
   show some _=_;rw[Aj (by omega)];rfl
  ·have e2:Ip d row c n=false:=by unfold Ip;rw[df hq];rfl
   rw[df hq,e2];simp only[Bool.not_false,cond_true];rw[Aj (by omega)];rfl
 ·dsimp only;rw[Dr h];simp only[Aa];rw[df (by omega),cond_false];rfl
def Ad6 (d:Int×(Int×(Int×Int)))(c:Int):List Int:=if DOk d/\(0<=c/\c<=d.1 - 2)then Acb d false c else []
def Ad7 (d:Int×(Int×(Int×Int)))(c:Int):List Int:=if DOk d/\(0<=c/\c<=d.2.1 - 2)then Acb d true c else []
theorem Ajp {d:Int×(Int×(Int×Int))}(h:DOk d)(row:Bool)(c:Int):(Acb d row c).length<=828:=by
 have hn:=Bo h;have:=Yb d row c (Aq d).toNat;unfold Acb;omega
theorem Sp (d:Int×(Int×(Int×Int)))(c:Int):(Ad6 d c).length<=828:=by
 unfold Ad6;split
 ·rename_i q;exact Ajp q.1 _ _
 ·simp
theorem Acd (d:Int×(Int×(Int×Int)))(c:Int):(Ad7 d c).length<=828:=by
 unfold Ad7;split
 ·rename_i q;exact Ajp q.1 _ _
 ·simp
theorem Wu (d:Int×(Int×(Int×Int)))(c:Int):Fq (d,c)=some (Ad6 d c):=by
 unfold Fq Ad6;dsimp only;rw[F7];simp only[Aa];by_cases h:DOk d
 ·have hw:=h.1;rw[dt h,Aj (by omega),Co];simp only[Bool.not_true,cond_false,Aa];by_cases q:0<=c/\c<=d.1 - 2
  ·rw[dt q,if_pos ⟨h,q⟩,Afd d false c h];rfl
  ·rw[df q,if_neg (fun e=>q e.2)];rfl
 ·rw[df h,if_neg (fun e=>h e.1)];rfl
theorem Sq (d:Int×(Int×(Int×Int)))(c:Int):G6 (d,c)=some (Ad7 d c):=by
 unfold G6 Ad7;dsimp only;rw[F7];simp only[Aa];by_cases h:DOk d
 ·have hw:=h.2.1;rw[dt h,Aj (by omega),Co];simp only[Bool.not_true,cond_false,Aa];by_cases q:0<=c/\c<=d.2.1 - 2
  ·rw[dt q,if_pos ⟨h,q⟩,Afd d true c h];rfl
  ·rw[df q,if_neg (fun e=>q e.2)];rfl
 ·rw[df h,if_neg (fun e=>h e.1)];rfl
theorem As2 (d:Int×(Int×(Int×Int)))(c:Int):Jj (d,c)=some (Ad6 d c):=by
 unfold Jj Ad6;dsimp only;rw[Io];simp only[Aa];by_cases h:DOk d
 ·have hw:=h.1;rw[dt h,Aj (by omega),B4];simp only[Bool.not_true,cond_false,Aa];by_cases q:0<=c/\c<=d.1 - 2
  ·have e:G4 (d,(d,c))=some (Acb d false c):=Y4 d false c h (fun t=>Ef (t,(d,c))) (fun t t0 t1=>by
    unfold Ef;dsimp only;rw[Bx t0 (by omega)];rfl)
   rw[dt q,if_pos ⟨h,q⟩,e];rfl
  ·rw[df q,if_neg (fun e=>q e.2)];rfl
 ·rw[df h,if_neg (fun e=>h e.1)];rfl
theorem Ajq (d:Int×(Int×(Int×Int)))(c:Int):K5 (d,c)=some (Ad7 d c):=by
 unfold K5 Ad7;dsimp only;rw[Io];simp only[Aa];by_cases h:DOk d
 ·have hw:=h.2.1;have hw1:=h.1;rw[dt h,Aj (by omega),B4];simp only[Bool.not_true,cond_false,Aa];by_cases q:0<=c/\c<=d.2.1 - 2
  ·have e:G5 (d,(d,c))=some (Acb d true c):=Y4 d true c h (fun t=>Gb (t,(d,c))) (fun t t0 t1=>by
    unfold Gb;dsimp only;rw[Ez t0 (by omega) (by omega)];rfl)
   rw[dt q,if_pos ⟨h,q⟩,e];rfl
  ·rw[df q,if_neg (fun e=>q e.2)];rfl
 ·rw[df h,if_neg (fun e=>h e.1)];rfl
end Go.Pf
/-
  Own work. A connection's nodes, plainly.
-/
namespace Go.Pf
open Go Go.Pu
set_option linter.unusedVariables false
def Ca (d:Dev)(t k:Int):Int:=if 0<=k/\k<Q5 (tk d t)then t*per d+5+k else -1
def M6 (d:Dev)(t k:Int):Int:=if 0<=k/\k<inP (tk d t)then t*per d+k else -1
theorem Wv (k:Int):0<=Q5 k/\Q5 k<=2/\(0<Q5 k->0<=k):=by
 unfold Q5;split;omega;split;omega;split<;>omega
theorem Amb (k:Int):0<=inP k/\inP k<=5/\(0<inP k->0<=k):=by
 unfold inP;split;omega;split;omega;split<;>omega
theorem Ace {d:Dev}{t:Int}(h:0<=tk d t):DOk d/\0<=t/\t<d.1*d.2.1/\tk d t=tkp d t/\(0<=t*per d/\t*per d<=828):=by
 have e:tk d t=if DOk d/\0<=t/\t<d.1*d.2.1 then tkp d t else -1:=rfl
 by_cases q:DOk d/\0<=t/\t<d.1*d.2.1
 ·rw[if_pos q]at e;have hm:=By q.1.1 q.1.2.1;have hp:=Dk q.1;have h1:t*per d<=36*23:=Int.mul_le_mul (by omega) (by omega) (by omega) (by omega);have h2:0<=t*per d:=Int.mul_nonneg (by omega) (by omega);exact⟨q.1,q.2.1,q.2.2,e,h2,by omega⟩
 ·rw[if_neg q]at e;omega
theorem Sr (d:Dev)(t k:Int)(ht:t<=9223372036854775807):Fy (d,(t,k))=some (Ca d t k):=by
 unfold Fy Ca;have ho:=Wv (tk d t);by_cases h0:k<0
 ·simp only[dt h0,cond_true];rw[if_neg (by omega)]
 ·simp only[df h0,cond_false];rw[Ql d t ht];simp only[Aa,Lx];by_cases h1:Q5 (tk d t)<=k
  ·rw[dt h1,cond_true,if_neg (by omega)]
  ·obtain⟨hd,_,_,_,q0,q1⟩:=Ace (d:=d) (t:=t) (ho.2.2 (by omega));rw[df h1,cond_false,Hb hd,if_pos ⟨by omega,by omega⟩];simp only[Aa];rw[Aj (z:=t*per d) (by omega),Aj (z:=t*per d+5) (by omega),Aj (by omega)]
theorem Y5 (d:Dev)(t k:Int)(ht:t<=9223372036854775807):K2 (d,(t,k))=some (Ca d t k):=by
 unfold K2 Ca;have ho:=Wv (tk d t);dsimp only;rw[Sh];simp only[Aa];by_cases h:DOk d/\0<=t/\t<d.1*d.2.1
 ·have e:tk d t=tkp d t:=by unfold tk;rw[if_pos h]
  have hk:=Ab1 d t;obtain⟨hd,_,_,_,q0,q1⟩:=Ace (d:=d) (t:=t) (by omega);rw[dt h,Of d t hd h.2.1 ht];simp only[Bool.not_true,cond_false,Aa];rw[Wl];simp only[Aa];rw[<-e,Aj (z:=Q5 (tk d t) - 1) (by omega),B4];simp only[Aa];by_cases h1:0<=k/\k<Q5 (tk d t)
  ·rw[dt (by omega),if_pos h1,Si hd];simp only[Bool.not_true,cond_false,Aa];rw[Aj (z:=t*per d) (by omega),Aj (z:=t*per d+5) (by omega),Aj (by omega)]
  ·rw[df (by omega),if_neg h1];rfl
 ·have e:tk d t= -1:=by unfold tk;rw[if_neg h]
  rw[df h,if_neg (by rw[e];unfold Q5;simp)];rfl
theorem Acf (d:Dev)(t k:Int)(ht:t<=9223372036854775807):Qg (d,(t,k))=some (M6 d t k):=by
 unfold Qg M6;have ho:=Amb (tk d t);by_cases h0:k<0
 ·simp only[dt h0,cond_true];rw[if_neg (by omega)]
 ·simp only[df h0,cond_false];rw[Ql d t ht];simp only[Aa,Sj];by_cases h1:inP (tk d t)<=k
  ·rw[dt h1,cond_true,if_neg (by omega)]
  ·obtain⟨hd,_,_,_,q0,q1⟩:=Ace (d:=d) (t:=t) (ho.2.2 (by omega));rw[df h1,cond_false,Hb hd,if_pos ⟨by omega,by omega⟩];simp only[Aa];rw[Aj (z:=t*per d) (by omega),Aj (by omega)]
theorem Acg (d:Dev)(t k:Int)(ht:t<=9223372036854775807):Qh (d,(t,k))=some (M6 d t k):=by
 unfold Qh M6;have ho:=Amb (tk d t);dsimp only;rw[Sh];simp only[Aa];by_cases h:DOk d/\0<=t/\t<d.1*d.2.1
 ·have e:tk d t=tkp d t:=by unfold tk;rw[if_pos h]
  have hk:=Ab1 d t;obtain⟨hd,_,_,_,q0,q1⟩:=Ace (d:=d) (t:=t) (by omega);rw[dt h,Of d t hd h.2.1 ht];simp only[Bool.not_true,cond_false,Aa];rw[Y2];simp only[Aa];rw[<-e,Aj (z:=inP (tk d t) - 1) (by omega),B4];simp only[Aa];by_cases h1:0<=k/\k<inP (tk d t)
  ·rw[dt (by omega),if_pos h1,Si hd];simp only[Bool.not_true,cond_false,Aa];rw[Aj (z:=t*per d) (by omega),Aj (by omega)]
  ·rw[df (by omega),if_neg h1];rfl
 ·have e:tk d t= -1:=by unfold tk;rw[if_neg h]
  rw[df h,if_neg (by rw[e];unfold inP;simp)];rfl
def Ww (ps:List Int)(i:Int):Int:=ps.getD i.toNat 0
def PsR (ps:List Int):Prop:=∀p∈ps,p<=9223372036854775807
theorem T0 {ps:List Int}(h:PsR ps)(i:Int):Ww ps i<=9223372036854775807:=by
 unfold Ww;by_cases hi:i.toNat<ps.length
 ·rw[List.getD,List.getElem?_eq_getElem hi];exact h _ (List.getElem_mem hi)
 ·rw[List.getD,List.getElem?_eq_none (by omega)];simp
def Fc (d:Dev)(ps:List Int)(p:Pin):Int:=if 0<=p.1/\p.1<(ps.length:Int)then Ca d (Ww ps p.1) p.2 else -1
theorem Ss (d:Dev)(ps:List Int)(c:B7)(hp:PsR ps):Dp (d,(ps,c))=some (Fc d ps c.2.1):=by
 unfold Dp Fc;dsimp only;by_cases h0:c.2.1.1<0
 ·rw[dt h0,cond_true,if_neg (by omega)]
 rw[df h0,cond_false];by_cases h1:(ps.length:Int)<=c.2.1.1
 ·rw[dt h1,cond_true,if_neg (by omega)]
 rw[df h1,cond_false,Bq (by omega) (by omega),if_pos (by omega)];simp only[Aa];exact(congrArg (fun o=>o.bind fun v5=>some v5) (Sr d (Ww ps c.2.1.1) c.2.1.2 (T0 hp _))).trans rfl
theorem Wx (d:Dev)(ps:List Int)(c:B7)(hp:PsR ps)(hl:ps.length<=1048576):Gc (d,(ps,c))=some (Fc d ps c.2.1):=by
 unfold Gc Fc;dsimp only;rw[Aj (by omega),B4];simp only[Aa];by_cases h:0<=c.2.1.1/\c.2.1.1<(ps.length:Int)
 ·rw[dt (by omega),if_pos h,Bq (by omega) (by omega)];simp only[Bool.not_true,cond_false,Aa];exact(congrArg (fun o=>o.bind fun v5=>some v5) (Y5 d (Ww ps c.2.1.1) c.2.1.2 (T0 hp _))).trans rfl
 ·rw[df (by omega),if_neg h];rfl
def Qo (d:Dev)(ps:List Int)(p:Pin):Int:=if 0<=p.1/\p.1<(ps.length:Int)then M6 d (Ww ps p.1) p.2 else -1
def E2 (d:Dev)(ps:List Int)(ss:List Pin):List Int:=if(ss.all fun p=>decide (0<=Qo d ps p))=true then ss.map (Qo d ps)else []
theorem Ach (d:Dev)(ps:List Int)(ss:List Pin):(E2 d ps ss).length<=ss.length:=by
 unfold E2;split<;>simp
theorem Pb (d:Dev)(ps:List Int)(c:B7)(hp:PsR ps)(hl:c.2.2.length<=1048576):Eh (d,(ps,c))=some (E2 d ps c.2.2):=by
 unfold Eh E2;obtain⟨c1,c2,ss⟩:=c;simp only at hl;dsimp only;refine Eq.trans (Cl ss.length (fun k:Nat=>((k:Int),(ss.take k).map (Qo d ps))) (fun k=>if h:k<ss.length then decide (0<=Qo d ps ss[k])else true) [] (ss.map (Qo d ps)) (fun k hk hok=> ?_) (fun k hk hok=> ?_) ?_) ?_
 ·rw[dif_pos hk]at hok;have q:=of_decide_eq_true hok;dsimp only;rw[dt (by omega),cond_true,Ar hk,Bu ss k hk,List.map_append];simp only[Aa];unfold Qo at q ⊢;by_cases h:0<=(ss[k]).1/\(ss[k]).1<(ps.length:Int)
  ·rw[if_pos h]at q;rw[df (by omega),cond_false,df (by omega),cond_false,Bq h.1 h.2];simp only[Aa];have e:=Acf d (Ww ps (ss[k]).1) (ss[k]).2 (T0 hp _);unfold Ww at e q ⊢;rw[e];simp only[Aa];rw[df (by omega),cond_false,Br (by simp;omega) (by simp;omega)];simp only[Aa,List.map_cons,List.map_nil];rw[Aj (by omega),if_pos h];rfl
  ·rw[if_neg h]at q;omega
 ·rw[dif_pos hk]at hok;have q:=of_decide_eq_false hok;dsimp only;rw[dt (by omega),cond_true,Ar hk];simp only[Aa];unfold Qo at q;by_cases h0:(ss[k]).1<0
  ·rw[dt h0];rfl
  rw[df h0,cond_false];by_cases h1:(ps.length:Int)<=(ss[k]).1
  ·rw[dt h1];rfl
  rw[if_pos (by omega)]at q;rw[df h1,cond_false,Bq (by omega) (by omega)];simp only[Aa];have e:=Acf d (Ww ps (ss[k]).1) (ss[k]).2 (T0 hp _);unfold Ww at e q;rw[e];simp only[Aa];rw[dt (by omega)];rfl
 ·dsimp only;rw[df (by omega),cond_false,List.take_length];rfl
 ·rw[Bt ss (fun p=>decide (0<=Qo d ps p)) _ (fun k hk=>by rw[dif_pos hk])]
theorem T1 (d:Dev)(ps:List Int)(c:B7)(hp:PsR ps)(hpl:ps.length<=1048576)(hl:c.2.2.length<=1048576):G3 (d,(ps,c))=some (E2 d ps c.2.2):=by
 unfold G3 E2;obtain⟨c1,c2,ss⟩:=c;simp only at hl;dsimp only;refine Eq.trans (Cl ss.length (fun k:Nat=>((ss.take k).map (Qo d ps),(k:Int))) (fun k=>if h:k<ss.length then decide (0<=Qo d ps ss[k])else true) [] (ss.map (Qo d ps)) (fun k hk hok=> ?_) (fun k hk hok=> ?_) ?_) ?_
 ·rw[dif_pos hk]at hok;have q:=of_decide_eq_true hok;dsimp only;rw[dt (by omega),cond_true,Ar hk,Bu ss k hk,List.map_append];simp only[Aa];unfold Qo at q ⊢;by_cases h:0<=(ss[k]).1/\(ss[k]).1<(ps.length:Int)
  ·rw[if_pos h]at q;rw[Aj (z:=(ps.length:Int) - 1) (by omega),B4];simp only[Aa];rw[dt (by omega),Bq h.1 h.2];simp only[Bool.not_true,cond_false,Aa];have e:=Acg d (Ww ps (ss[k]).1) (ss[k]).2 (T0 hp _);unfold Ww at e q ⊢;rw[e];simp only[Aa];rw[df (by omega),cond_false,Br (by simp;omega) (by simp;omega)];simp only[Aa,List.map_cons,List.map_nil];rw[Aj (by omega),if_pos h];rfl
  ·rw[if_neg h]at q;omega
 ·rw[dif_pos hk]at hok;have q:=of_decide_eq_false hok;dsimp only;rw[dt (by omega),cond_true,Ar hk];simp only[Aa];unfold Qo at q;rw[Aj (z:=(ps.length:Int) - 1) (by omega),B4];simp only[Aa];by_cases h:0<=(ss[k]).1/\(ss[k]).1<(ps.length:Int)
  ·rw[if_pos h]at q;rw[dt (by omega),Bq (by omega) (by omega)];simp only[Bool.not_true,cond_false,Aa];have e:=Acg d (Ww ps (ss[k]).1) (ss[k]).2 (T0 hp _);unfold Ww at e q;rw[e];simp only[Aa];rw[dt (by omega)];rfl
  ·rw[df (by omega)];rfl
 ·dsimp only;rw[df (by omega),cond_false,List.take_length];rfl
 ·rw[Bt ss (fun p=>decide (0<=Qo d ps p)) _ (fun k hk=>by rw[dif_pos hk])]
end Go.Pf
