/-
  Own work: parts Pko, Mkh, Mcs, Cno, Pck, Pcl, Pcs, Pcx, Nti, Cns, LawConnsOk, LawPlaceCost, Ntj, Dsb, Dsc, Dsd, plain lemmas.
-/
import Derived.Test.YthjfdjekombkkaaGreatQ1
import Derived.Test.YthjfdjekombkkaaGreatQ0
/-
  Own work. Packings, plainly: every item once.
-/
namespace Go.Pf
open Go Go.Pu
set_option linter.unusedVariables false
def BkB (b:Int)(x:Blk):Prop:=(x.2.2.length:Int)<=b
def Av3 (bs:List Blk):Prop:=bs.length<=1048576/\∀b∈bs,BkB (1048576 - bs.length) b
theorem Av3.at {bs:List Blk}(h:Av3 bs){b:Blk}(hb:b∈bs):b.2.2.length<=1048576:=by
 have:=h.2 b hb;unfold BkB at this;omega
def Fs (bs:List Blk)(k:Nat):Blk:=bs.getD k (0,(0,[]))
theorem Acx {bs:List Blk}{k:Nat}(h:k<bs.length):Ak ((0,(0,[])):Blk) bs (k:Int)=some (Fs bs k)/\Fs bs k∈bs:=by
 have e:Fs bs k=bs[k]:=by unfold Fs;rw[List.getD,List.getElem?_eq_getElem h];rfl
 rw[e];exact⟨Ar h,List.getElem_mem h⟩
abbrev P4:=List Int×(List Int×(List Int×List Int))
def leT (s:List Int×List Int)(e:Le):List Int×List Int:=(if 0<=e.2 then Yd s.1 e.2 else s.1,if 0<=e.1 then Yd s.2 e.1 else s.2)
def leA (ls:List Le)(s:List Int×List Int)(j:Nat):List Int×List Int:=(ls.take j).foldl leT s
theorem Av4 (s:List Int×List Int)(e:Le):(leT s e).1.length=s.1.length/\(leT s e).2.length=s.2.length:=by
 unfold leT
 constructor
 ·show(if 0<=e.2 then Yd s.1 e.2 else s.1).length=_;split
  ·exact La _ _
  ·rfl
 ·show(if 0<=e.1 then Yd s.2 e.1 else s.2).length=_;split
  ·exact La _ _
  ·rfl
theorem Aoo (ls:List Le):∀(s:List Int×List Int),(ls.foldl leT s).1.length=s.1.length/\(ls.foldl leT s).2.length=s.2.length:=by
 induction ls with
 | nil=>exact fun _=>⟨rfl,rfl⟩
 | cons e r ih=>
  intro s;rw[List.foldl_cons];have h1:=ih (leT s e);have h2:=Av4 s e;exact⟨h1.1.trans h2.1,h1.2.trans h2.2⟩
theorem Ath (ls:List Le)(s:List Int×List Int){j:Nat}(h:j<ls.length):leA ls s (j+1)=leT (leA ls s j) (Cp ls j):=by
 unfold leA;rw[Aon h,List.foldl_append];rfl
def Pg (b:Blk)(s:P4):List Int×(List Int×List Int):=if b.1=0 then(Yd s.1 b.2.1,(s.2.1,s.2.2.1))else if b.1=1 then(s.1,(Yd s.2.1 b.2.1,s.2.2.1))else if b.1=2 then(s.1,(s.2.1,Yd s.2.2.1 b.2.1))else(s.1,(s.2.1,s.2.2.1))
def pkT (s:P4)(b:Blk):P4:=((Pg b s).1,((Pg b s).2.1,leA b.2.2 ((Pg b s).2.2,s.2.2.2) b.2.2.length))
theorem Aqy (b:Blk)(s:P4):(Pg b s).1.length=s.1.length/\(Pg b s).2.1.length=s.2.1.length/\(Pg b s).2.2.length=s.2.2.1.length:=by
 unfold Pg;split
 ·exact⟨La _ _,rfl,rfl⟩
 split
 ·exact⟨rfl,La _ _,rfl⟩
 split
 ·exact⟨rfl,rfl,La _ _⟩
 ·exact⟨rfl,rfl,rfl⟩
def Amk (n:Net)(s:P4):Prop:=s.1.length=n.1.toNat/\s.2.1.length=n.2.2.2.length/\s.2.2.1.length=n.2.1.length/\s.2.2.2.length=n.2.2.1.length
theorem Ayp {n:Net}{s:P4}(b:Blk)(h:Amk n s):Amk n (pkT s b):=by
 obtain⟨h1,h2,h3,h4⟩:=h;obtain⟨k1,k2,k3⟩:=Aqy b s;have hl:=Aoo (b.2.2.take b.2.2.length) ((Pg b s).2.2,s.2.2.2);exact⟨k1.trans h1,k2.trans h2,(hl.1.trans k3).trans h3,hl.2.trans h4⟩
def pk0 (n:Net):P4:=(List.replicate n.1.toNat 0,(List.replicate n.2.2.2.length 0,(List.replicate n.2.1.length 0,List.replicate n.2.2.1.length 0)))
theorem Ayq (n:Net):Amk n (pk0 n):=by unfold Amk pk0;simp
def pkA (n:Net)(bs:List Blk)(k:Nat):P4:=(bs.take k).foldl pkT (pk0 n)
theorem Ayr {n:Net}(bs:List Blk):∀(s:P4),Amk n s->Amk n (bs.foldl pkT s):=by
 induction bs with
 | nil=>exact fun _ h=>h
 | cons e r ih=>exact fun s h=>ih _ (Ayp e h)
theorem Ati (n:Net)(bs:List Blk)(k:Nat):Amk n (pkA n bs k):=Ayr _ _ (Ayq n)
theorem Atj (n:Net)(bs:List Blk){k:Nat}(h:k<bs.length):pkA n bs (k+1)=pkT (pkA n bs k) (Fs bs k):=by
 unfold pkA;have e:Fs bs k=bs[k]:=by unfold Fs;rw[List.getD,List.getElem?_eq_getElem h];rfl
 rw[Bu bs k h,List.foldl_append,e];rfl
def once (xs:List Int):Bool:=xs.all fun x=>decide (x=1)
def Axk (s:P4):Bool:=once s.1 && (once s.2.1 && (once s.2.2.1 && once s.2.2.2))
def Q9 (n:Net)(b:Blk):Bool:=Gw n b && Aqw n b
def Ug (n:Net)(bs:List Blk):Bool:=Du n && (decide (bs.length<=64) && (bs.all (Q9 n) && Axk (pkA n bs bs.length)))
theorem Av5 (xs:List Int):once xs=if(List.range xs.length).all (fun k=>if hk:k<xs.length then decide (xs[k]=1)else true)=true then true else false:=by
 rw[Bt xs (fun e=>decide (e=1)) _ (fun k hk=>by rw[dif_pos hk])];show once xs=if once xs=true then true else false
 cases once xs<;>rfl
theorem Aqz (xs:List Int)(hl:xs.length<=1048576):(Pu.loop (fun(v18:Int)=>
 let v19:Int:=((xs).length:Int)
 let v20:Bool:=decide (v18<v19)
 bif v20 then(
  (gin (xs).length v18).bind fun _=>
  (Ak 0 xs v18).bind fun v22=>
  let v23:Bool:=decide (v22≠1)
  bif v23 then(
   Option.map Sum.inr (
    some false))else
  let v24:Int:=wrap .i64 (v18+1)
  some (.inl v24))else
 Option.map Sum.inr (
  some true)) 0)=some (once xs):=by
 rw[Av5];refine Cl xs.length (fun k=>(k:Int)) _ false true (fun k hk hok=> ?_) (fun k hk hok=> ?_) ?_
 ·rw[dif_pos hk]at hok;have hok:=of_decide_eq_true hok
  try dsimp only
  rw[dt (show(k:Int)<(xs.length:Int)by omega),cond_true,As hk,Ar hk];simp only[Aa];rw[df (fun e=>e hok),cond_false,Aj (by omega)];rfl
 ·rw[dif_pos hk]at hok;have hok:=of_decide_eq_false hok
  try dsimp only
  rw[dt (show(k:Int)<(xs.length:Int)by omega),cond_true,As hk,Ar hk];simp only[Aa];rw[dt hok];rfl
 ·try dsimp only
  rw[df (by omega),cond_false];rfl
theorem Acy (xs ys:List Int):once (xs++ys)=(once xs && once ys):=by unfold once;rw[List.all_append]
def Axl (n:Net)(ls:List Le):Prop:=∀j,j<ls.length->(Cp ls j).1<(n.2.2.1.length:Int)/\(Cp ls j).2<(n.2.1.length:Int)
theorem Ays {n:Net}{b:Blk}(h:Q9 n b=true):Axl n b.2.2:=by
 unfold Q9 at h;rw[Ai]at h;obtain⟨h1,h2⟩:=h;intro j hj;by_cases k3:b.1=3
 ·have:=(Ko (Afm h1 (by omega) (by omega) (by omega)).2 hj).1;omega
 ·unfold Aqw at h2;rw[if_neg k3]at h2;have:=of_decide_eq_true h2;omega
theorem Lz {n:Net}{ls:List Le}(hl:ls.length<=1048576)(hi:Axl n ls)(s:List Int×List Int)(h1:s.1.length=n.2.1.length)(h2:s.2.length=n.2.2.1.length)(i:Int)(p o:List Int):
 Pu.loop (fun(v19:(Int×(List Int×List Int)))=>
  let v20:Int:=((ls).length:Int)
  let v21:Bool:=decide (v19.1<v20)
  bif v21 then(
   (Ak (0,0) ls v19.1).bind fun v22=>
   let v23:Bool:=decide (0<=v22.1)
   bif v23 then(
    (Ak (0,0) ls v19.1).bind fun v24=>
    (gin (v19.2.2).length v24.1).bind fun _=>
    (Ak 0 v19.2.2 v24.1).bind fun v26=>
    let v27:Int:=wrap .i64 (v26+1)
    (gin (v19.2.2).length v24.1).bind fun _=>
    (Ak 0 v19.2.2 v24.1).bind fun v29=>
    let v30:Int:=v27
    let v31:List Int:=A8 v19.2.2 v24.1 v30
    (Ak (0,0) ls v19.1).bind fun v32=>
    let v33:Bool:=decide (0<=v32.2)
    bif v33 then(
     (Ak (0,0) ls v19.1).bind fun v34=>
     (gin (v19.2.1).length v34.2).bind fun _=>
     (Ak 0 v19.2.1 v34.2).bind fun v36=>
     let v37:Int:=wrap .i64 (v36+1)
     (gin (v19.2.1).length v34.2).bind fun _=>
     (Ak 0 v19.2.1 v34.2).bind fun v39=>
     let v40:Int:=v37
     let v41:List Int:=A8 v19.2.1 v34.2 v40
     let v42:Int:=wrap .i64 (v19.1+1)
     some (.inl (v42,(v41,v31))))else
    let v34:Int:=wrap .i64 (v19.1+1)
    some (.inl (v34,(v19.2.1,v31))))else
   (Ak (0,0) ls v19.1).bind fun v24=>
   let v25:Bool:=decide (0<=v24.2)
   bif v25 then(
    (Ak (0,0) ls v19.1).bind fun v26=>
    (gin (v19.2.1).length v26.2).bind fun _=>
    (Ak 0 v19.2.1 v26.2).bind fun v28=>
    let v29:Int:=wrap .i64 (v28+1)
    (gin (v19.2.1).length v26.2).bind fun _=>
    (Ak 0 v19.2.1 v26.2).bind fun v31=>
    let v32:Int:=v29
    let v33:List Int:=A8 v19.2.1 v26.2 v32
    let v34:Int:=wrap .i64 (v19.1+1)
    some (.inl (v34,(v33,v19.2.2))))else
   let v26:Int:=wrap .i64 (v19.1+1)
   some (.inl (v26,v19.2)))else
  Option.map Sum.inr (
   let v22:Int:=wrap .i64 (i+1)
   some (.inl (v22,(p,(o,v19.2)))))) (0,s)=(some (.inl (wrap .i64 (i+1),(p,(o,leA ls s ls.length)))):Option ((Int×P4)⊕Bool)):=by
 refine Ao ls.length (fun j=>((j:Int),leA ls s j)) (fun j hj=> ?_) ?_
 ·obtain⟨q1,q2⟩:=Aoo (ls.take j) s
  change (leA ls s j).1.length=_ at q1
  change (leA ls s j).2.length=_ at q2
  have hij:=hi j hj;rw[Ath ls s hj];generalize leA ls s j=t at*
  try dsimp only
  rw[dt (show(j:Int)<(ls.length:Int)by omega),cond_true,Lh hj];simp only[Aa];generalize Cp ls j=e at*;unfold leT;by_cases c1:0<=e.1
  ·rw[dt c1,cond_true,Cn c1 (by omega),E4 c1 (by omega),if_pos c1];simp only[Aa];by_cases c2:0<=e.2
   ·rw[dt c2,cond_true,Cn c2 (by omega),E4 c2 (by omega),if_pos c2];simp only[Aa];rw[Aj (z:=(j:Int)+1) (by omega)];rfl
   ·rw[df c2,cond_false,if_neg c2,Aj (z:=(j:Int)+1) (by omega)];rfl
  ·rw[df c1,cond_false,if_neg c1];by_cases c2:0<=e.2
   ·rw[dt c2,cond_true,Cn c2 (by omega),E4 c2 (by omega),if_pos c2];simp only[Aa];rw[Aj (z:=(j:Int)+1) (by omega)];rfl
   ·rw[df c2,cond_false,if_neg c2,Aj (z:=(j:Int)+1) (by omega)];rfl
 ·try dsimp only
  rw[df (by omega),cond_false];rfl
theorem Ayt (n:Net)(bs:List Blk)(x:Bool):(bs.all (Q9 n) && x)=if(List.range bs.length).all (fun k=>Q9 n (Fs bs k))=true then x else false:=by
 rw[Bt bs (Q9 n) _ (fun k hk=>by
  show Q9 n (Fs bs k)=_;unfold Fs;rw[List.getD,List.getElem?_eq_getElem hk];rfl)]
 cases bs.all (Q9 n)<;>rfl
theorem Av6 {n:Net}{b:Blk}(h:Q9 n b=true):(b.1=0->0<=b.2.1/\b.2.1<n.1)/\(b.1=1->0<=b.2.1/\b.2.1<(n.2.2.2.length:Int))/\(b.1=2->0<=b.2.1/\b.2.1<(n.2.1.length:Int)):=by
 unfold Q9 at h;rw[Ai]at h;have h1:=h.1;unfold Gw at h1;refine⟨fun e=> ?_,fun e=> ?_,fun e=> ?_⟩
 ·rw[if_pos e]at h1;exact of_decide_eq_true h1
 ·rw[if_neg (by omega),if_pos e]at h1;exact of_decide_eq_true h1
 ·rw[if_neg (by omega),if_neg (by omega),if_pos e]at h1;exact of_decide_eq_true h1
theorem W3 {α β:Type}(a:α)(k:α->Option β):B1 (some (.inl a)) k=k a:=rfl
theorem Aq0 (n:Net)(bs:List Blk)(hb:M3 n)(hs:Av3 bs):No (n,bs)=some (Ug n bs):=by
 have hbl:=hs.1;unfold No Ug
 try dsimp only
 rw[W0 n hb];simp only[Aa];cases hn:Du n with
 | false=>rfl
 | true=>
  obtain⟨hln,_⟩:=Cx hn;obtain⟨l1,l2,l3,l4⟩:=hln;rw[Bool.not_true,cond_false,Bool.true_and];by_cases c:64<(bs.length:Int)
  ·rw[dt c,df (show ¬bs.length<=64 by omega)];rfl
  have m1:Ct 8 (0:Int) n.1=some (List.replicate n.1.toNat 0):=by
   have:=Bz (b:=8) (d:=(0:Int)) (n:=n.1.toNat) (by omega) (by omega);rw[show((n.1.toNat:Nat):Int)=n.1 by omega]at this;exact this
  rw[df c,cond_false,dt (show bs.length<=64 by omega),Bool.true_and,m1,Bz (b:=8) (d:=(0:Int)) (n:=n.2.2.2.length) (by omega) (by omega),Bz (b:=8) (d:=(0:Int)) (n:=n.2.1.length) (by omega) (by omega),Bz (b:=8) (d:=(0:Int)) (n:=n.2.2.1.length) (by omega) (by omega)];simp only[Aa];rw[Ayt];refine Cl bs.length (fun k=>((k:Int),pkA n bs k)) _ false _ (fun k hk hok=> ?_) (fun k hk hok=> ?_) ?_
  ·obtain⟨g1,g2⟩:=Acx hk;have hlen:=hs.at g2;obtain⟨q1,q2,q3,q4⟩:=Ati n bs k;have hin:=Ays hok;obtain⟨i0,i1,i2⟩:=Av6 hok;rw[Atj n bs hk];generalize pkA n bs k=s at*;generalize Fs bs k=b at*;have hok' :Aqx n b=true:=by unfold Aqx;rw[hn,Bool.true_and];exact hok
   try dsimp only
   rw[dt (show(k:Int)<(bs.length:Int)by omega),cond_true,g1];simp only[Aa];rw[Aj6 n b hb hlen];simp only[Aa];have fin:∀p o q:List Int,Pg b s=(p,(o,q))->q.length=n.2.1.length->(some (Sum.inl (wrap .i64 ((k:Int)+1),(p,(o,leA b.2.2 (q,s.2.2.2) b.2.2.length)))):Option ((Int×P4)⊕Bool))=some (Sum.inl (((k+1:Nat):Int),pkT s b)):=by
    intro p o q e _;unfold pkT;rw[e,Aj (by omega)];rfl
   rw[hok',Bool.not_true,cond_false];by_cases k0:b.1=0
   ·have:=i0 k0;rw[dt k0,cond_true,Cn (by omega) (by omega),E4 (by omega) (by omega)];simp only[Aa];rw[W3];refine(Lz hlen hin (s.2.2.1,s.2.2.2) q3 q4 (k:Int) _ _).trans (fin _ _ _ ?_ q3);unfold Pg;rw[if_pos k0];rfl
   rw[df k0,cond_false];by_cases k1:b.1=1
   ·have:=i1 k1;rw[dt k1,cond_true,Cn (by omega) (by omega),E4 (by omega) (by omega)];simp only[Aa];rw[W3];refine(Lz hlen hin (s.2.2.1,s.2.2.2) q3 q4 (k:Int) _ _).trans (fin _ _ _ ?_ q3);unfold Pg;rw[if_neg k0,if_pos k1];rfl
   rw[df k1,cond_false];by_cases k2:b.1=2
   ·have:=i2 k2;rw[dt k2,cond_true,Cn (by omega) (by omega),E4 (by omega) (by omega)];simp only[Aa];rw[W3];refine(Lz hlen hin (Yd s.2.2.1 b.2.1,s.2.2.2) ((La _ _).trans q3) q4 (k:Int) _ _).trans (fin _ _ _ ?_ ((La _ _).trans q3));unfold Pg;rw[if_neg k0,if_neg k1,if_pos k2]
   rw[df k2,cond_false,W3];refine(Lz hlen hin (s.2.2.1,s.2.2.2) q3 q4 (k:Int) _ _).trans (fin _ _ _ ?_ q3);unfold Pg;rw[if_neg k0,if_neg k1,if_neg k2]
  ·obtain⟨g1,g2⟩:=Acx hk;have hlen:=hs.at g2;have hok' :Aqx n (Fs bs k)=false:=by unfold Aqx;rw[hn,Bool.true_and];exact hok
   try dsimp only
   rw[dt (show(k:Int)<(bs.length:Int)by omega),cond_true,g1];simp only[Aa];rw[Aj6 n _ hb hlen];simp only[Aa];rw[hok'];rfl
  ·obtain⟨q1,q2,q3,q4⟩:=Ati n bs bs.length;unfold Axk;generalize pkA n bs bs.length=s at*
   try dsimp only
   rw[df (show ¬(bs.length:Int)<(bs.length:Int)by omega),cond_false,gapp_ok (by omega)];simp only[Aa];rw[gapp_ok (by rw[Ad];omega)];simp only[Aa];rw[gapp_ok (by rw[Ad,Ad];omega)];simp only[Aa];refine(congrArg (Option.map Sum.inr) (Aqz (((s.1++s.2.1)++s.2.2.1)++s.2.2.2) (by simp only[Ad];omega))).trans ?_
   rw[Acy,Acy,Acy,Bool.and_assoc,Bool.and_assoc];rfl
end Go.Pf
/-
  Own work. The laws' marks in lists of connections and of blocks: what is marked is held.
-/
namespace Go.Pf
open Go Go.Pu
set_option linter.unusedVariables false
end Go.Pf
/-
  Own work. The laws' helpers for lists of connections: sizes within the budget, marks.
-/
namespace Go.Pf
open Go Go.Pu
set_option linter.unusedVariables false
def CnB (b:Int)(c:B7):Prop:=(c.2.2.length:Int)<=b
def Azo (cs:List B7):Prop:=cs.length<=1048576/\∀c∈cs,CnB (1048576 - cs.length) c
theorem Azo.ok {cs:List B7}(h:Azo cs):Uf cs:=⟨h.1,fun c hc=>by
 have:=h.2 c hc;unfold CnB at this;unfold Ayh;omega⟩
end Go.Pf
/-
  Own work. The connections of a packing, plainly.
-/
namespace Go.Pf
open Go Go.Pu
set_option linter.unusedVariables false
def mtA (x p:Int)(xs:List Int)(acc:List Pin):Nat->List Pin
 | 0=>acc
 | j+1=>if Am xs j=x then mtA x p xs acc j++[(p,(j:Int))]else mtA x p xs acc j
theorem Ahc (x p:Int)(xs:List Int)(acc:List Pin)(j:Nat):(mtA x p xs acc j).length<=acc.length+j:=by
 induction j with
 | zero=>exact Nat.le_refl _
 | succ j ih=>
  show(if Am xs j=x then mtA x p xs acc j++[(p,(j:Int))]else mtA x p xs acc j).length<=_;split
  ·rw[Ad];simp only[Ab,Ac];omega
  ·omega
def skA (x:Int)(PS:List (List Int)):Nat->List Pin
 | 0=>[]
 | p+1=>mtA x (p:Int) (gAt PS p) (skA x PS p) (gAt PS p).length
def Azp (PS:List (List Int)):Prop:=PS.length<=64/\∀p,p<PS.length->(gAt PS p).length<=433
theorem Aop {x:Int}{PS:List (List Int)}(h:Azp PS)(p:Nat)(hp:p<=PS.length):(skA x PS p).length<=433*p:=by
 induction p with
 | zero=>simp[skA]
 | succ p ih=>
  have h1:=ih (by omega);have h2:=Ahc x (p:Int) (gAt PS p) (skA x PS p) (gAt PS p).length;have h3:=h.2 p (by omega);show(mtA x (p:Int) (gAt PS p) (skA x PS p) (gAt PS p).length).length<=_;omega
theorem Atk {PS:List (List Int)}{p:Nat}(h:p<PS.length):Ak ([]:List Int) PS (p:Int)=some (gAt PS p):=by
 unfold gAt;rw[Ar h,List.getD,List.getElem?_eq_getElem h];rfl
def cnA (PS:List (List Int))(b:Int)(os:List Int)(acc:List B7):Nat->List B7
 | 0=>acc
 | j+1=>if 0<((skA (Am os j) PS PS.length).length:Int)then cnA PS b os acc j++[(Am os j,((b,(j:Int)),skA (Am os j) PS PS.length))]else cnA PS b os acc j
theorem Aoq (PS:List (List Int))(b:Int)(os:List Int)(acc:List B7)(j:Nat):(cnA PS b os acc j).length<=acc.length+j:=by
 induction j with
 | zero=>exact Nat.le_refl _
 | succ j ih=>
  show(if 0<((skA (Am os j) PS PS.length).length:Int)then cnA PS b os acc j++[(Am os j,((b,(j:Int)),skA (Am os j) PS PS.length))]else cnA PS b os acc j).length<=_;split
  ·rw[Ad];simp only[Ab,Ac];omega
  ·omega
def ctA (n:Net)(bs:List Blk)(PS:List (List Int)):Nat->List B7
 | 0=>[]
 | b+1=>cnA PS (b:Int) (Qr n (Fs bs b)) (ctA n bs PS b) (Qr n (Fs bs b)).length
def psA (n:Net)(bs:List Blk)(k:Nat):List (List Int):=(bs.take k).map (W2 n)
theorem Aaa (n:Net)(bs:List Blk){k:Nat}(h:k<=bs.length):(psA n bs k).length=k:=by unfold psA;simp;omega
theorem Atl (n:Net)(bs:List Blk){k:Nat}(h:k<bs.length):psA n bs (k+1)=psA n bs k++[W2 n (Fs bs k)]:=by
 have e:Fs bs k=bs[k]:=by unfold Fs;rw[List.getD,List.getElem?_eq_getElem h];rfl
 unfold psA;rw[Bu bs k h,List.map_append,e];rfl
def Ahd (n:Net)(bs:List Blk):List B7:=if Ug n bs=true then ctA n bs (psA n bs bs.length) bs.length else []
theorem Mc {n:Net}{bs:List Blk}(h:Ug n bs=true):Du n=true/\bs.length<=64/\∀k,k<bs.length->Q9 n (Fs bs k)=true:=by
 unfold Ug at h;simp only[Ai,decide_eq_true_eq,List.all_eq_true]at h;exact⟨h.1,h.2.1,fun k hk=>h.2.2.1 _ (Acx hk).2⟩
theorem Yi {n:Net}{b:Blk}(h:Q9 n b=true):Gw n b=true:=by
 unfold Q9 at h;rw[Ai]at h;exact h.1
theorem Atm {n:Net}{b:Blk}(h:Q9 n b=true):b.2.2.length<=2:=by
 unfold Q9 at h;rw[Ai]at h;have h2:=h.2;unfold Aqw at h2;split at h2
 ·have:=of_decide_eq_true h2;omega
 ·have:=of_decide_eq_true h2;omega
theorem Acz {n:Net}{b:Blk}(h:Q9 n b=true):(Qr n b).length<=2:=by
 have h2:=Atm h;unfold Qr;split
 ·simp
 split
 ·simp
 split
 ·simp
 ·exact Nat.le_trans (Mb n b.2.2 _) h2
theorem Ayu {n:Net}{bs:List Blk}(h:Ug n bs=true):Azp (psA n bs bs.length):=by
 obtain⟨hn,hl,hk⟩:=Mc h;refine⟨by rw[Aaa n bs (Nat.le_refl _)];exact hl,fun p hp=> ?_⟩;rw[Aaa n bs (Nat.le_refl _)]at hp;have e:gAt (psA n bs bs.length) p=W2 n (Fs bs p):=by
  have e:Fs bs p=bs[p]:=by unfold Fs;rw[List.getD,List.getElem?_eq_getElem hp];rfl
  unfold gAt psA;rw[List.take_length,List.getD,List.getElem?_map,List.getElem?_eq_getElem hp,e];rfl
 rw[e];exact Atg hn (Yi (hk p hp))
theorem Aor {n:Net}{bs:List Blk}(h:Ug n bs=true)(PS:List (List Int))(k:Nat)(hk:k<=bs.length):(ctA n bs PS k).length<=2*k:=by
 induction k with
 | zero=>simp[ctA]
 | succ k ih=>
  have h1:=ih (by omega);have h2:=Acz ((Mc h).2.2 k (by omega));have h3:=Aoq PS (k:Int) (Qr n (Fs bs k)) (ctA n bs PS k) (Qr n (Fs bs k)).length;show(cnA PS (k:Int) (Qr n (Fs bs k)) (ctA n bs PS k) (Qr n (Fs bs k)).length).length<=_;omega
theorem Ac0 {α β:Type}{X:Option β}{o:β}(h:X=some o):Option.map (Sum.inr:β->α⊕β) X=some (.inr o):=by rw[h];rfl
theorem Av7 {xs ys:List (List Int)}(h:xs.length+ys.length<=1000000000):A3 24 xs ys=some (xs++ys):=Br (by omega) (by omega)
theorem Av8 {xs ys:List Pin}(h:xs.length+ys.length<=1000000000):A3 16 xs ys=some (xs++ys):=Br (by omega) (by omega)
theorem Ayv {xs ys:List B7}(h:xs.length+ys.length<=1000000000):A3 48 xs ys=some (xs++ys):=Br (by omega) (by omega)
theorem Aml (n:Net)(bs:List Blk)(hb:M3 n)(hs:Av3 bs):Lt (n,bs)=some (Ahd n bs):=by
 unfold Lt Ahd;rw[Aq0 n bs hb hs];simp only[Aa];cases hp:Ug n bs with
 | false=>rfl
 | true=>
  obtain⟨hn,hl,hk⟩:=Mc hp;rw[Bool.not_true,cond_false,if_pos rfl];have both2:∀k,k<bs.length->(Du n && Gw n (Fs bs k))=true:=fun k hkl=>by rw[hn,Yi (hk k hkl)];rfl
  refine Ao bs.length (fun k=>((k:Int),psA n bs k)) (fun k hkl=> ?_) ?_
  ·obtain⟨g1,g2⟩:=Acx hkl;have hpl:=Aaa n bs (show k<=bs.length by omega)
   try dsimp only
   rw[dt (show(k:Int)<(bs.length:Int)by omega),cond_true,g1];simp only[Aa];rw[Aea n _ hb (hs.at g2),if_pos (both2 k hkl)];simp only[Aa];rw[Av7 (by simp only[Ab,Ac];omega),<-Atl n bs hkl];simp only[Aa];rw[Aj (by omega)];rfl
  ·have hPS:=Ayu hp;generalize psA n bs bs.length=PS at*
   try dsimp only
   rw[df (show ¬(bs.length:Int)<(bs.length:Int)by omega),cond_false];refine Ac0 ?_
   refine Ao bs.length (fun k=>((k:Int),ctA n bs PS k)) (fun k hkl=> ?_) ?_
   ·obtain⟨g1,g2⟩:=Acx hkl;have hol:=Acz (hk k hkl);have hct:=Aor hp PS k (by omega)
    try dsimp only
    rw[dt (show(k:Int)<(bs.length:Int)by omega),cond_true,g1];simp only[Aa];rw[Aqt n _ hb (hs.at g2),if_pos (both2 k hkl)];simp only[Aa];show _=some (Sum.inl (((k+1:Nat):Int),cnA PS (k:Int) (Qr n (Fs bs k)) (ctA n bs PS k) (Qr n (Fs bs k)).length));generalize Qr n (Fs bs k)=os at*;generalize ctA n bs PS k=acc at*;refine Ao os.length (fun j=>((j:Int),cnA PS (k:Int) os acc j)) (fun j hj=> ?_) ?_
    ·have hcl:=Aoq PS (k:Int) os acc j
     try dsimp only
     rw[dt (show(j:Int)<(os.length:Int)by omega),cond_true,As hj,A0 hj];simp only[Aa];show _=some (Sum.inl (((j+1:Nat):Int),if 0<((skA (Am os j) PS PS.length).length:Int)then cnA PS (k:Int) os acc j++[(Am os j,(((k:Int),(j:Int)),skA (Am os j) PS PS.length))]else cnA PS (k:Int) os acc j));generalize Am os j=x at*;generalize cnA PS (k:Int) os acc j=cs at*;refine Ao PS.length (fun p=>((p:Int),skA x PS p)) (fun p hpp=> ?_) ?_
     ·have hsl:=Aop (x:=x) hPS p (by omega);have hpl:=hPS.2 p hpp;have hPl:=hPS.1
      try dsimp only
      rw[dt (show(p:Int)<(PS.length:Int)by omega),cond_true];show _=some (Sum.inl (((p+1:Nat):Int),mtA x (p:Int) (gAt PS p) (skA x PS p) (gAt PS p).length));refine Ao (gAt PS p).length (fun i=>((i:Int),mtA x (p:Int) (gAt PS p) (skA x PS p) i)) (fun i hi=> ?_) ?_
      ·have hml:=Ahc x (p:Int) (gAt PS p) (skA x PS p) i
       try dsimp only
       rw[As hpp,Atk hpp];simp only[Aa];rw[dt (show(i:Int)<((gAt PS p).length:Int)by omega),cond_true,A0 hi];simp only[Aa];show _=some (Sum.inl (((i+1:Nat):Int),if Am (gAt PS p) i=x then mtA x (p:Int) (gAt PS p) (skA x PS p) i++[((p:Int),(i:Int))]else mtA x (p:Int) (gAt PS p) (skA x PS p) i));by_cases c:Am (gAt PS p) i=x
       ·rw[dt c,cond_true,if_pos c,Av8 (by simp only[Ab,Ac];omega)];simp only[Aa];rw[Aj (by omega)];rfl
       ·rw[df c,cond_false,if_neg c,Aj (by omega)];rfl
      ·try dsimp only
       rw[As hpp,Atk hpp];simp only[Aa];rw[df (show ¬((gAt PS p).length:Int)<((gAt PS p).length:Int)by omega),cond_false,Aj (by omega)];rfl
     ·have hsl:=Aop (x:=x) hPS PS.length (by omega);have hPl:=hPS.1;generalize skA x PS PS.length=sk at*
      try dsimp only
      rw[df (show ¬(PS.length:Int)<(PS.length:Int)by omega),cond_false];by_cases c:0<(sk.length:Int)
      ·rw[dt c,cond_true,if_pos c,Ayv (by simp only[Ab,Ac];omega)];simp only[Aa];rw[Aj (by omega)];rfl
      ·rw[df c,cond_false,if_neg c,Aj (by omega)];rfl
    ·try dsimp only
     rw[df (show ¬(os.length:Int)<(os.length:Int)by omega),cond_false,Aj (by omega)];rfl
   ·try dsimp only
    rw[df (show ¬(bs.length:Int)<(bs.length:Int)by omega),cond_false];rfl
end Go.Pf
/-
  Own work. Packing, plainly.
-/
namespace Go.Pf
open Go Go.Pu
set_option linter.unusedVariables false
def elT (n:Net):Nat->List Le×List Bool
 | 0=>([],List.replicate n.2.2.1.length false)
 | k+1=>if(Bm n.2.1 k).1≠0 then elT n k else
  if 0<=Am (Bm n.2.1 k).2.2 0 - Em n/\Am (Pe n) (Am (Bm n.2.1 k).2.2 0).toNat=1 then
   ((elT n k).1++[(Am (Bm n.2.1 k).2.2 0 - Em n,(k:Int))],A8 (elT n k).2 (Am (Bm n.2.1 k).2.2 0 - Em n) true)
  else((elT n k).1++[(-1,(k:Int))],(elT n k).2)
def bAu (U:List Bool)(k:Nat):Bool:=U.getD k false
theorem Qs {U:List Bool}{k:Nat}(h:k<U.length):Ak false U (k:Int)=some (bAu U k):=by
 unfold bAu;rw[Ar h,List.getD,List.getElem?_eq_getElem h];rfl
def elL (n:Net):Nat->List Le
 | 0=>(elT n n.2.1.length).1
 | k+1=>if bAu (elT n n.2.1.length).2 k=false then elL n k++[((k:Int),-1)]else elL n k
def elP (n:Net):List Le:=elL n n.2.2.1.length
theorem Ac1 {n:Net}(hn:Du n=true):∀k,k<=n.2.1.length->(elT n k).1.length<=k/\(elT n k).2.length=n.2.2.1.length/\∀e∈(elT n k).1,Fe n e:=by
 obtain⟨hln,_,hs,_⟩:=Cx hn;have hv:=Oh hln;intro k
 induction k with
 | zero=>intro _;simp[elT]
 | succ k ih=>
  intro hk;obtain⟨i1,i2,i3⟩:=ih (by omega);have hsk:=hs k (by omega);unfold elT;by_cases c0:(Bm n.2.1 k).1≠0
  ·rw[if_pos c0];exact⟨by omega,i2,i3⟩
  have c0:(Bm n.2.1 k).1=0:=Decidable.byContradiction c0;rw[if_neg (fun e=>e c0)];have hlen:(Bm n.2.1 k).2.2.length=1:=by rcases hsk.1 with q | q<;>omega
  have hx:=Ej hsk.2 (Am (Bm n.2.1 k).2.2 0) (by
   rw[<-Dm (show 0<(Bm n.2.1 k).2.2.length by omega)];exact List.getElem_mem _)
  have hlv:lnV n=Em n+n.2.2.1.length:=rfl;by_cases c1:0<=Am (Bm n.2.1 k).2.2 0 - Em n/\Am (Pe n) (Am (Bm n.2.1 k).2.2 0).toNat=1
  ·rw[if_pos c1];refine⟨by simp;omega,by show(A8 _ _ _).length=_;unfold A8;rw[List.length_set];exact i2,fun e he=> ?_⟩;rcases List.mem_append.1 he with q | q
   ·exact i3 e q
   ·rw[List.mem_singleton]at q;subst q;refine⟨⟨⟨by simp only;omega,by simp only;omega⟩,⟨by simp only;omega,by simp only;omega⟩,by simp only;omega⟩,fun _=> ?_,fun _ _=> ?_⟩
    ·simp only[Int.toNat_natCast];exact c0
    ·simp only[Int.toNat_natCast];refine⟨by omega,?_⟩;rw[show Em n+(Am (Bm n.2.1 k).2.2 0 - Em n)=Am (Bm n.2.1 k).2.2 0 by omega];exact c1.2
  ·rw[if_neg c1];refine⟨by simp;omega,i2,fun e he=> ?_⟩;rcases List.mem_append.1 he with q | q
   ·exact i3 e q
   ·rw[List.mem_singleton]at q;subst q;refine⟨⟨⟨by simp only;omega,by simp only;omega⟩,⟨by simp only;omega,by simp only;omega⟩,by simp only;omega⟩,fun _=> ?_,fun h=>absurd h (by simp only;omega)⟩;simp only[Int.toNat_natCast];exact c0
theorem Amm {n:Net}(hn:Du n=true):∀k,k<=n.2.2.1.length->(elL n k).length<=12+k/\∀e∈elL n k,Fe n e:=by
 obtain⟨hln,_⟩:=Cx hn;obtain⟨h1,h2,h3⟩:=Ac1 hn n.2.1.length (Nat.le_refl _);have hl2:=hln.2.1;intro k
 induction k with
 | zero=>intro _;exact⟨by show(elT n n.2.1.length).1.length<=_;omega,h3⟩
 | succ k ih=>
  intro hk;obtain⟨i1,i2⟩:=ih (by omega);show(if bAu (elT n n.2.1.length).2 k=false then elL n k++[((k:Int),-1)]else elL n k).length<=_/\∀e∈(if bAu (elT n n.2.1.length).2 k=false then elL n k++[((k:Int),-1)]else elL n k),Fe n e;split
  ·refine⟨by simp;omega,fun e he=> ?_⟩;rcases List.mem_append.1 he with q | q
   ·exact i2 e q
   ·rw[List.mem_singleton]at q;subst q;exact⟨⟨⟨by simp only;omega,by simp only;omega⟩,⟨by simp only;omega,by simp only;omega⟩,by simp only;omega⟩,fun h=>absurd h (by simp only;omega),fun _ h=>absurd h (by simp only;omega)⟩
  ·exact⟨by omega,i2⟩
theorem Ju {xs ys:List Le}(h:xs.length+ys.length<=1000000000):A3 16 xs ys=some (xs++ys):=Br (by omega) (by omega)
theorem Oi {xs ys:List Blk}(h:xs.length+ys.length<=1000000000):A3 40 xs ys=some (xs++ys):=Br (by omega) (by omega)
theorem Av9 {n:Net}(hb:M3 n)(hn:Du n=true):Od n=some (elP n):=by
 obtain⟨hln,_,hs,_⟩:=Cx hn;have hv:=Oh hln;have hl2:=hln.2.1;have hl3:=hln.2.2.1;have hul:=Ye n;have hlv:lnV n=Em n+n.2.2.1.length:=rfl;unfold Od;rw[Aqo hb hn];simp only[Aa];rw[Bz (by omega) (by omega)];simp only[Aa];refine Ao n.2.1.length (fun k=>((k:Int),elT n k)) (fun k hk=> ?_) ?_
 ·obtain⟨i1,i2,_⟩:=Ac1 hn k (by omega);have hsk:=hs k hk;obtain⟨g1,g2⟩:=Hw hk
  try dsimp only
  rw[dt (show(k:Int)<(n.2.1.length:Int)by omega),cond_true,g1];simp only[Aa];rw[show elT n (k+1)=if(Bm n.2.1 k).1≠0 then elT n k else
  if 0<=Am (Bm n.2.1 k).2.2 0 - Em n/\Am (Pe n) (Am (Bm n.2.1 k).2.2 0).toNat=1 then
   ((elT n k).1++[(Am (Bm n.2.1 k).2.2 0 - Em n,(k:Int))],A8 (elT n k).2 (Am (Bm n.2.1 k).2.2 0 - Em n) true)
  else((elT n k).1++[(-1,(k:Int))],(elT n k).2)from rfl]
  generalize elT n k=t at*;by_cases c0:(Bm n.2.1 k).1≠0
  ·rw[dt c0,cond_true,if_pos c0,Aj (by omega)];rfl
  rw[df c0,cond_false,if_neg c0];have c0:(Bm n.2.1 k).1=0:=Decidable.byContradiction c0;have hlen:(Bm n.2.1 k).2.2.length=1:=by rcases hsk.1 with q | q<;>omega
  have g0:Ak 0 (Bm n.2.1 k).2.2 0=some (Am (Bm n.2.1 k).2.2 0):=A0 (show 0<(Bm n.2.1 k).2.2.length by omega);have hx:=Ej hsk.2 (Am (Bm n.2.1 k).2.2 0) (by
   rw[<-Dm (show 0<(Bm n.2.1 k).2.2.length by omega)];exact List.getElem_mem _)
  rw[g0];generalize Am (Bm n.2.1 k).2.2 0=x at*;simp only[Aa];rw[Acq hln];simp only[Aa];rw[Aj (z:=x - Em n) (by omega)];by_cases c1:0<=x - Em n
  ·rw[dt c1,cond_true,Cn hx.1 (by omega),E4 hx.1 (by omega)];simp only[Aa];by_cases c2:Am (Pe n) x.toNat=1
   ·have gb:Ak false t.2 (x - Em n)=some (t.2.getD (x - Em n).toNat false):=Bq c1 (by omega);rw[dt c2,cond_true,if_pos ⟨c1,c2⟩,Cn c1 (by omega),gb];simp only[Aa];rw[Ju (by simp only[Ab,Ac];omega)];simp only[Aa];rw[Aj (z:=(k:Int)+1) (by omega)];rfl
   ·rw[df c2,cond_false,if_neg (fun e=>c2 e.2),Ju (by simp only[Ab,Ac];omega)];simp only[Aa];rw[Aj (z:=(k:Int)+1) (by omega)];rfl
  ·rw[df c1,cond_false,if_neg (fun e=>c1 e.1),Ju (by simp only[Ab,Ac];omega)];simp only[Aa];rw[Aj (z:=(k:Int)+1) (by omega)];rfl
 ·obtain⟨i1,i2,_⟩:=Ac1 hn n.2.1.length (Nat.le_refl _)
  try dsimp only
  rw[df (show ¬(n.2.1.length:Int)<(n.2.1.length:Int)by omega),cond_false];refine Ac0 ?_
  refine Ao n.2.2.1.length (fun k=>((k:Int),elL n k)) (fun k hk=> ?_) ?_
  ·have hel:=(Amm hn k (by omega)).1
   try dsimp only
   rw[dt (show(k:Int)<(n.2.2.1.length:Int)by omega),cond_true,As (by omega),Qs (by omega)];simp only[Aa];show _=some (Sum.inl (((k+1:Nat):Int),if bAu (elT n n.2.1.length).2 k=false then elL n k++[((k:Int),-1)]else elL n k));cases hu:bAu (elT n n.2.1.length).2 k with
   | true=>rw[Bool.not_true,cond_false,if_neg (by simp),Aj (by omega)];rfl
   | false=>
    rw[Bool.not_false,cond_true,if_pos rfl,Ju (by simp only[Ab,Ac];omega)];simp only[Aa];rw[Aj (by omega)];rfl
  ·try dsimp only
   rw[df (show ¬(n.2.2.1.length:Int)<(n.2.2.1.length:Int)by omega),cond_false];rfl
theorem Awa {n:Net}(hb:M3 n)(hn:Du n=true):Nn n=some (elP n):=by
 obtain⟨hln,_,hs,_⟩:=Cx hn;have hv:=Oh hln;have hl2:=hln.2.1;have hl3:=hln.2.2.1;have hul:=Ye n;have hlv:lnV n=Em n+n.2.2.1.length:=rfl;unfold Nn;rw[Aff hb hn];simp only[Aa];rw[Bz (by omega) (by omega)];simp only[Aa];refine Ao n.2.1.length (fun k=>((k:Int),elT n k)) (fun k hk=> ?_) ?_
 ·obtain⟨i1,i2,_⟩:=Ac1 hn k (by omega);have hsk:=hs k hk;obtain⟨g1,g2⟩:=Hw hk
  try dsimp only
  rw[dt (show(k:Int)<(n.2.1.length:Int)by omega),cond_true,g1];simp only[Aa];rw[show elT n (k+1)=if(Bm n.2.1 k).1≠0 then elT n k else
  if 0<=Am (Bm n.2.1 k).2.2 0 - Em n/\Am (Pe n) (Am (Bm n.2.1 k).2.2 0).toNat=1 then
   ((elT n k).1++[(Am (Bm n.2.1 k).2.2 0 - Em n,(k:Int))],A8 (elT n k).2 (Am (Bm n.2.1 k).2.2 0 - Em n) true)
  else((elT n k).1++[(-1,(k:Int))],(elT n k).2)from rfl]
  generalize elT n k=t at*;by_cases c0:(Bm n.2.1 k).1≠0
  ·rw[dt c0,cond_true,if_pos c0,Aj (by omega)];rfl
  rw[df c0,cond_false,if_neg c0];have c0:(Bm n.2.1 k).1=0:=Decidable.byContradiction c0;have hlen:(Bm n.2.1 k).2.2.length=1:=by rcases hsk.1 with q | q<;>omega
  have g0:Ak 0 (Bm n.2.1 k).2.2 0=some (Am (Bm n.2.1 k).2.2 0):=A0 (show 0<(Bm n.2.1 k).2.2.length by omega);have hx:=Ej hsk.2 (Am (Bm n.2.1 k).2.2 0) (by
   rw[<-Dm (show 0<(Bm n.2.1 k).2.2.length by omega)];exact List.getElem_mem _)
  rw[g0];generalize Am (Bm n.2.1 k).2.2 0=x at*;simp only[Aa];rw[Pd hln];simp only[Aa];rw[Aj (z:=x - Em n) (by omega)];by_cases c1:0<=x - Em n
  ·rw[dt c1,cond_true,Cn hx.1 (by omega),E4 hx.1 (by omega)];simp only[Aa];by_cases c2:Am (Pe n) x.toNat=1
   ·have gb:Ak false t.2 (x - Em n)=some (t.2.getD (x - Em n).toNat false):=Bq c1 (by omega);rw[dt c2,cond_true,if_pos ⟨c1,c2⟩,Cn c1 (by omega),gb];simp only[Aa];rw[Ju (by simp only[Ab,Ac];omega)];simp only[Aa];rw[Aj (z:=(k:Int)+1) (by omega)];rfl
   ·rw[df c2,cond_false,if_neg (fun e=>c2 e.2),Ju (by simp only[Ab,Ac];omega)];simp only[Aa];rw[Aj (z:=(k:Int)+1) (by omega)];rfl
  ·rw[df c1,cond_false,if_neg (fun e=>c1 e.1),Ju (by simp only[Ab,Ac];omega)];simp only[Aa];rw[Aj (z:=(k:Int)+1) (by omega)];rfl
 ·obtain⟨i1,i2,_⟩:=Ac1 hn n.2.1.length (Nat.le_refl _)
  try dsimp only
  rw[df (show ¬(n.2.1.length:Int)<(n.2.1.length:Int)by omega),cond_false];refine Ac0 ?_
  refine Ao n.2.2.1.length (fun k=>((k:Int),elL n k)) (fun k hk=> ?_) ?_
  ·have hel:=(Amm hn k (by omega)).1
   try dsimp only
   rw[dt (show(k:Int)<(n.2.2.1.length:Int)by omega),cond_true,As (by omega),Qs (by omega)];simp only[Aa];show _=some (Sum.inl (((k+1:Nat):Int),if bAu (elT n n.2.1.length).2 k=false then elL n k++[((k:Int),-1)]else elL n k));cases hu:bAu (elT n n.2.1.length).2 k with
   | true=>rw[Bool.not_true,cond_false,if_neg (by simp),Aj (by omega)];rfl
   | false=>
    rw[Bool.not_false,cond_true,if_pos rfl,Ju (by simp only[Ab,Ac];omega)];simp only[Aa];rw[Aj (by omega)];rfl
  ·try dsimp only
   rw[df (show ¬(n.2.2.1.length:Int)<(n.2.2.1.length:Int)by omega),cond_false];rfl
def Jv (n:Net)(e:Le):List Int:=ins (Lc n e) (Ny n e)
def cmA (xs ys:List Int):Nat->Int
 | 0=>0
 | k+1=>if Am xs k∈ys then cmA xs ys k+1 else cmA xs ys k
theorem Amn (xs ys:List Int)(k:Nat):0<=cmA xs ys k/\cmA xs ys k<=k:=by
 induction k with
 | zero=>simp[cmA]
 | succ k ih=>unfold cmA;split<;>omega
def com (n:Net)(e r:Le):Int:=cmA (Jv n e) (Jv n r) (Jv n e).length
theorem Aab {n:Net}(h:Du n=true){e:Le}(he:Fe n e):(Jv n e).length<=5:=by
 have h1:=J8 h he;have h2:=Aoa (Lc n e) (Ny n e);unfold Jv;omega
theorem Aj7 {n:Net}(h:Du n=true){e:Le}(he:Fe n e):Hq (n,e)=some (Jv n e):=by
 have h1:=J8 h he;unfold Hq;rw[Aj4 h he,Aj3 (Cx h).1 he];simp only[Aa];rw[I4 _ _ (by omega)];rfl
theorem Atn {n:Net}(h:Du n=true){e r:Le}(he:Fe n e)(hr:Fe n r):Hp (Jv n e,Jv n r)=some (com n e r):=by
 have h1:=Aab h he;have h2:=Aab h hr;unfold Hp com;generalize Jv n e=xs at*;generalize Jv n r=ys at*;refine Ao xs.length (fun k=>(cmA xs ys k,(k:Int))) (fun k hk=> ?_) ?_
 ·have hc:=Amn xs ys k
  try dsimp only
  rw[dt (show(k:Int)<(xs.length:Int)by omega),cond_true,A0 hk];simp only[Aa];rw[O8 _ _ (by omega)];simp only[Aa];show _=some (Sum.inl ((if Am xs k∈ys then cmA xs ys k+1 else cmA xs ys k),((k+1:Nat):Int)));by_cases c:Am xs k∈ys
  ·rw[dt c,cond_true,if_pos c,Aj (z:=cmA xs ys k+1) (by omega),Aj (z:=(k:Int)+1) (by omega)];rfl
  ·rw[df c,cond_false,if_neg c,Aj (z:=(k:Int)+1) (by omega)];rfl
 ·try dsimp only
  rw[df (by omega),cond_false];rfl
theorem Ato {n:Net}(h:Du n=true){e r:Le}(he:Fe n e)(hr:Fe n r):G9 (n,(e,r))=some (com n e r):=by
 have h1:=J8 h he;have h2:=J8 h hr;have h3:=Aab h he;have ho:=Av2 (Cx h).1 he;unfold G9 com
 try dsimp only
 rw[Acv h he,Sy (Cx h).1 he,Acv h hr,Sy (Cx h).1 hr];simp only[Aa];rw[gapp_ok (by simp only[Ab,Ac];omega)];simp only[Aa];rw[gapp_ok (by simp only[Ab,Ac];omega)];simp only[Aa];rw[Qq _ _ (by simp only[Ad,Ab,Ac];omega) (by simp)];simp only[Aa];have e1:Yf (Lc n e++[Ny n e]) []=Jv n e:=by
  refine Z7 (M4 Js) (An9 (M4 Js)) fun x=> ?_
  rw[Sz,List.mem_append,List.mem_singleton];unfold Jv;rw[Z8]
  constructor
  ·rintro⟨q | q,_⟩
   ·exact .inr q
   ·exact .inl q
  ·rintro(q | q)
   ·exact⟨.inr q,by omega,by simp⟩
   ·exact⟨.inl q,(Sz.1 q).2.1,by simp⟩
 have e2:∀x,(x∈Lc n r++[Ny n r])↔x∈Jv n r:=fun x=>by
  unfold Jv;rw[Z8,List.mem_append,List.mem_singleton];exact⟨fun q=>q.symm,fun q=>q.symm⟩
 rw[e1];have h4:(Lc n r++[Ny n r]).length<=5:=by simp;omega
 generalize Lc n r++[Ny n r]=zs at*;generalize Jv n e=xs at*;generalize Jv n r=ys at*;refine Ao xs.length (fun k=>(cmA xs ys k,(k:Int))) (fun k hk=> ?_) ?_
 ·have hc:=Amn xs ys k
  try dsimp only
  rw[dt (show(k:Int)<(xs.length:Int)by omega),cond_true,As hk,A0 hk];simp only[Aa];rw[Wq _ _ (by omega)];simp only[Aa];show _=some (Sum.inl ((if Am xs k∈ys then cmA xs ys k+1 else cmA xs ys k),((k+1:Nat):Int)));by_cases c:Am xs k∈ys
  ·rw[dt ((e2 _).2 c),if_pos c];show(some (1:Int)).bind _=_;simp only[Aa];rw[Aj (z:=cmA xs ys k+1) (by omega),Aj (z:=(k:Int)+1) (by omega)];rfl
  ·rw[df (fun q=>c ((e2 _).1 q)),if_neg c];show(some (0:Int)).bind _=_;simp only[Aa];rw[Aj (z:=cmA xs ys k+0) (by omega),Aj (z:=(k:Int)+1) (by omega),Int.add_zero];rfl
 ·try dsimp only
  rw[df (by omega),cond_false];rfl
end Go.Pf
/-
  Own work. Packing, plainly: the search for partners.
-/
namespace Go.Pf
open Go Go.Pu
set_option linter.unusedVariables false
def scP (n:Net)(e:Le)(rest:List Le):Nat->Int×Int
 | 0=>(-1,-1)
 | k+1=>if(Lk n [e,Cp rest k]).length<=5/\(scP n e rest k).2<com n e (Cp rest k)then((k:Int),com n e (Cp rest k))else scP n e rest k
theorem Ayw {n:Net}(h:Du n=true){e r:Le}(he:Fe n e):0<=com n e r/\com n e r<=5:=by
 have h1:=Aab h he;have h2:=Amn (Jv n e) (Jv n r) (Jv n e).length;unfold com;omega
theorem Ahe {n:Net}(h:Du n=true){e:Le}(he:Fe n e)(rest:List Le)(k:Nat): -1<=(scP n e rest k).1/\(scP n e rest k).1<k∧-1<=(scP n e rest k).2/\(scP n e rest k).2<=5:=by
 induction k with
 | zero=>simp[scP]
 | succ k ih=>
  unfold scP;split
  ·have:=Ayw h (r:=Cp rest k) he;exact⟨by simp only;omega,by simp only;omega,by simp only;omega,by simp only;omega⟩
  ·omega
inductive W4 (n:Net):List Blk->List Le->List Blk->Prop
 | nil (bs:List Blk):W4 n bs [] bs
 | two (bs:List Blk) (e:Le) (rest:List Le) (b:Nat) (out:List Blk):(scP n e rest rest.length).1=(b:Int)->b<rest.length->W4 n (bs++[(3,(0,[e,Cp rest b]))]) (rest.take b++rest.drop (b+1)) out->W4 n bs (e::rest) out
 | one (bs:List Blk) (e:Le) (rest:List Le) (out:List Blk):(scP n e rest rest.length).1<0->W4 n (bs++[(3,(0,[e]))]) rest out->W4 n bs (e::rest) out
theorem Ac2 {n:Net}(h:Du n=true):∀(m:Nat) (bs:List Blk) (left:List Le),left.length<=m->(∀e∈left,Fe n e)->∃out,W4 n bs left out
 | _,bs,[],_,_=>⟨bs,.nil bs⟩
 | 0,bs,e::rest,hm,_=>by simp at hm
 | m+1,bs,e::rest,hm,ho=>by
  have hs:=Ahe h (ho e (by simp)) rest rest.length;simp only[Ab]at hm;by_cases c:(scP n e rest rest.length).1<0
  ·obtain⟨out,hp⟩:=Ac2 h m (bs++[(3,(0,[e]))]) rest (by omega) (fun x hx=>ho x (by simp[hx]));exact⟨out,.one bs e rest out c hp⟩
  ·obtain⟨b,hb⟩:∃b:Nat,(scP n e rest rest.length).1=(b:Int):=⟨(scP n e rest rest.length).1.toNat,by omega⟩;obtain⟨out,hp⟩:=Ac2 h m (bs++[(3,(0,[e,Cp rest b]))]) (rest.take b++rest.drop (b+1)) (by simp;omega) (fun x hx=>by
    rcases List.mem_append.1 hx with q | q
    ·exact ho x (List.mem_cons_of_mem _ (List.mem_of_mem_take q))
    ·exact ho x (List.mem_cons_of_mem _ (List.mem_of_mem_drop q)))
   exact⟨out,.two bs e rest b out hb (by omega) hp⟩
theorem Ac3 {n:Net}{bs:List Blk}{left:List Le}{out:List Blk}(h:W4 n bs left out):bs.length<=out.length/\(left≠[]->bs.length<out.length)/\((∀b∈bs,b.2.2.length<=2)->∀b∈out,b.2.2.length<=2):=by
 induction h with
 | nil bs=>exact⟨Nat.le_refl _,fun q=>absurd rfl q,fun q=>q⟩
 | two bs e rest b out _ _ _ ih=>
  obtain⟨i1,_,i3⟩:=ih;rw[Ad]at i1;simp only[Ab,Ac]at i1;refine⟨by omega,fun _=>by omega,fun q=>i3 fun x hx=> ?_⟩;rcases List.mem_append.1 hx with p | p
  ·exact q x p
  ·rw[List.mem_singleton]at p;subst p;simp
 | one bs e rest out _ _ ih=>
  obtain⟨i1,_,i3⟩:=ih;rw[Ad]at i1;simp only[Ab,Ac]at i1;refine⟨by omega,fun _=>by omega,fun q=>i3 fun x hx=> ?_⟩;rcases List.mem_append.1 hx with p | p
  ·exact q x p
  ·rw[List.mem_singleton]at p;subst p;simp
def Aj8 (out:List Blk):List Blk×Bool:=if 64<(out.length:Int)then([],false)else(out,true)
noncomputable def pkF (v0:Net):(List Blk×List Le)->Option ((List Blk×List Le)⊕(List Blk×Bool)):=(fun(v12:(List (Int×(Int×List (Int×Int)))×List (Int×Int)))=>
 let v13:Int:=((v12.2).length:Int)
 let v14:Bool:=decide (0<v13)
 bif v14 then(
  (gin (v12.2).length 0).bind fun _=>
  (Ak (0,0) v12.2 0).bind fun v16=>
  let v17:List (Int×Int):=[v16]
  (Hq (v0,v16)).bind fun v18=>
  Pu.loop (fun(v19:(Int×(Int×Int)))=>
   let v20:Int:=((v12.2).length:Int)
   let v21:Bool:=decide (v19.2.2<v20)
   bif v21 then(
    B1 (
     (gin (v12.2).length v19.2.2).bind fun _=>
     (Ak (0,0) v12.2 v19.2.2).bind fun v23=>
     let v24:List (Int×Int):=[v16,v23]
     some (.inl v24)) (fun(v22:List (Int×Int))=>
     (gin (v12.2).length v19.2.2).bind fun _=>
     (Ak (0,0) v12.2 v19.2.2).bind fun v24=>
     (Hq (v0,v24)).bind fun v25=>
     (Hp (v18,v25)).bind fun v26=>
     (Gm (v0,(3,(0,v22)))).bind fun v27=>
     let v28:Int:=((v27).length:Int)
     let v29:Bool:=decide (v28<=5)
     bif v29 then(
      let v30:Bool:=decide (v19.2.1<v26)
      bif v30 then(
       let v31:Int:=wrap .i64 (v19.2.2+1)
       some (.inl (v19.2.2,(v26,v31))))else
      let v31:Int:=wrap .i64 (v19.2.2+1)
      some (.inl (v19.1,(v19.2.1,v31))))else
     let v30:Int:=wrap .i64 (v19.2.2+1)
     some (.inl (v19.1,(v19.2.1,v30)))))else
   Option.map Sum.inr (
    let v22:Bool:=decide (0<v19.1)
    bif v22 then(
     (gin (v12.2).length v19.1).bind fun _=>
     (Ak (0,0) v12.2 v19.1).bind fun v24=>
     let v25:List (Int×Int):=[v24]
     (A3 16 v17 v25).bind fun v26=>
     (Bs v12.2 0 v19.1).bind fun v27=>
     let v28:Int:=wrap .i64 (v19.1+1)
     (Bs v12.2 v28 ((v12.2).length:Int)).bind fun v29=>
     (A3 16 v27 v29).bind fun v30=>
     (Bs v30 1 ((v30).length:Int)).bind fun v31=>
     let v32:List (Int×(Int×List (Int×Int))):=[(3,(0,v26))]
     (A3 40 v12.1 v32).bind fun v33=>
     some (.inl (v33,v31)))else
    (Bs v12.2 1 ((v12.2).length:Int)).bind fun v23=>
    let v24:List (Int×(Int×List (Int×Int))):=[(3,(0,v17))]
    (A3 40 v12.1 v24).bind fun v25=>
    some (.inl (v25,v23)))) ((-1),((-1),1)))else
 Option.map Sum.inr (
  let v15:Int:=((v12.1).length:Int)
  let v16:Bool:=decide (64<v15)
  bif v16 then(
   some (([]:List (Int×(Int×List (Int×Int)))),false))else
  some (v12.1,true)))
def b1 (b:Int):Int:=if b<0 then -1 else b+1
theorem Azq {n:Net}{e r:Le}(he:Fe n e)(hr:Fe n r):U9 n [e,r]=true:=by
 unfold U9;simp[he,hr]
theorem Afn (e:Le)(rest:List Le)(k:Nat):Cp (e::rest) (k+1)=Cp rest k:=by unfold Cp;simp
theorem Ac4 {ls:List Le}{k:Nat}(h:k<ls.length):Cp ls k∈ls:=by rw[<-Afl h];exact List.getElem_mem h
theorem Aj9 {xs:List Le}{k:Nat}(h:k<=xs.length):Bs xs 0 (k:Int)=some (xs.take k):=by
 unfold Bs;rw[if_pos ⟨by omega,by omega,by omega⟩];simp
theorem S1 {xs:List Le}{k:Nat}(h:k<=xs.length):Bs xs (k:Int) (xs.length:Int)=some (xs.drop k):=by
 unfold Bs;rw[if_pos ⟨by omega,by omega,by omega⟩];simp
theorem Aka {n:Net}(hb:M3 n)(hn:Du n=true)(e:Le)(rest:List Le)(bs:List Blk)(ho:∀x∈e::rest,Fe n x)(hl:rest.length<=1000)(hbl:bs.length<=1000):
 pkF n (bs,e::rest)=some (.inl (if 0<b1 (scP n e rest rest.length).1 then(bs++[(3,(0,[e,Cp rest (scP n e rest rest.length).1.toNat]))],rest.take (scP n e rest rest.length).1.toNat++rest.drop ((scP n e rest rest.length).1.toNat+1))else(bs++[(3,(0,[e]))],rest))):=by
 have he:=ho e (by simp);unfold pkF;have hg0:Ak ((0,0):Le) (e::rest) 0=some e:=by rw[Bq (by omega) (by simp only[Ab];omega)];rfl
 have hi0:gin (e::rest).length 0=some ():=Cn (by omega) (by simp only[Ab];omega)
 try dsimp only
 rw[dt (show 0<((e::rest).length:Int)by simp only[Ab];omega),cond_true,hi0,hg0];simp only[Aa];rw[Aj7 hn he];simp only[Aa];refine Ao rest.length (fun k=>(b1 (scP n e rest k).1,((scP n e rest k).2,((1+k:Nat):Int)))) (fun k hk=> ?_) ?_
 ·have hsc:=Ahe hn he rest k;have hr:=ho (Cp rest k) (List.mem_cons_of_mem _ (Ac4 hk));have hk2:1+k<(e::rest).length:=by simp only[Ab];omega
  have hgk:Ak ((0,0):Le) (e::rest) ((1+k:Nat):Int)=some (Cp rest k):=by
   rw[Lh hk2,Nat.add_comm,Afn]
  have hik:gin (e::rest).length ((1+k:Nat):Int)=some ():=As hk2;have hit:Gw n (3,(0,[e,Cp rest k]))=true:=Azq he hr;have hpin:W2 n (3,(0,[e,Cp rest k]))=Lk n [e,Cp rest k]:=rfl
  try dsimp only
  rw[dt (show((1+k:Nat):Int)<((e::rest).length:Int)by omega),cond_true,hik,hgk];simp only[Aa];rw[W3,Aj7 hn hr];simp only[Aa];rw[Atn hn he hr];simp only[Aa];rw[Aqv hb hn hit (by simp),hpin];simp only[Aa];show _=some (Sum.inl (b1 (if(Lk n [e,Cp rest k]).length<=5/\(scP n e rest k).2<com n e (Cp rest k)then((k:Int),com n e (Cp rest k))else scP n e rest k).1,((if(Lk n [e,Cp rest k]).length<=5/\(scP n e rest k).2<com n e (Cp rest k)then((k:Int),com n e (Cp rest k))else scP n e rest k).2,((1+(k+1):Nat):Int))));have hw:wrap .i64 (((1+k:Nat):Int)+1)=((1+(k+1):Nat):Int):=by rw[Aj (by omega)];omega
  by_cases c1:((Lk n [e,Cp rest k]).length:Int)<=5
  ·rw[dt c1,cond_true];by_cases c2:(scP n e rest k).2<com n e (Cp rest k)
   ·rw[dt c2,cond_true,if_pos ⟨by omega,c2⟩,hw];have e1:b1 (k:Int)=((1+k:Nat):Int):=by unfold b1;rw[if_neg (by omega)];omega
    rw[e1]
   ·rw[df c2,cond_false,if_neg (fun q=>c2 q.2),hw]
  ·rw[df c1,cond_false,if_neg (fun q=>c1 (by omega)),hw]
 ·have hsc:=Ahe hn he rest rest.length;generalize scP n e rest rest.length=s at*;have hlen:((1+rest.length:Nat):Int)=((e::rest).length:Int):=by simp only[Ab];omega
  try dsimp only
  rw[hlen,df (show ¬((e::rest).length:Int)<((e::rest).length:Int)by omega),cond_false];refine Ac0 ?_
  by_cases c:s.1<0
  ·have e1:b1 s.1= -1:=by unfold b1;rw[if_pos c]
   have hs1:Bs (e::rest) 1 ((e::rest).length:Int)=some rest:=S1 (k:=1) (by simp only[Ab];omega);rw[e1,df (show ¬(0:Int)< -1 by omega),cond_false,if_neg (show ¬(0:Int)< -1 by omega),hs1];simp only[Aa];rw[Oi (by simp only[Ab,Ac];omega)];rfl
  ·obtain⟨b,hb'⟩:∃b:Nat,s.1=(b:Int):=⟨s.1.toNat,by omega⟩;have e1:b1 s.1=((b+1:Nat):Int):=by unfold b1;rw[if_neg c,hb'];omega
   have hbr:b<rest.length:=by omega
   have hbl2:b+1<(e::rest).length:=by simp only[Ab];omega
   rw[e1,dt (show(0:Int)<((b+1:Nat):Int)by omega),cond_true,if_pos (show(0:Int)<((b+1:Nat):Int)by omega),As hbl2,Lh hbl2,Afn];simp only[Aa];rw[Ju (by simp),Aj9 (show b+1<=(e::rest).length by omega),Aj (by omega)];simp only[Aa];have e2:(((b+1:Nat):Int)+1)=((b+2:Nat):Int):=by omega
   rw[e2,S1 (show b+2<=(e::rest).length by omega)];simp only[Aa];rw[Ju (by rw[List.length_take,List.length_drop];omega)];simp only[Aa];have e3:∀zs:List Le,zs=(e::rest).take (b+1)++(e::rest).drop (b+2)->Bs zs 1 (zs.length:Int)=some (rest.take b++rest.drop (b+1)):=fun zs hz=>by
    subst hz;rw[show(1:Int)=((1:Nat):Int)from rfl,S1 (by simp)];rfl
   rw[e3 _ rfl];simp only[Aa];rw[Oi (by simp only[Ab,Ac];omega),hb',Int.toNat_natCast];rfl
theorem S2 {σ ω:Type}{f:σ->Option (σ⊕ω)}{s s' :σ}(h:f s=some (.inl s')):loop f s=loop f s' :=by rw[Cq,h]
theorem Ac5 {σ ω:Type}{f:σ->Option (σ⊕ω)}{s:σ}{o:ω}(h:f s=some (.inr o)):loop f s=some o:=by rw[Cq,h]
theorem Awb {n:Net}(hb:M3 n)(hn:Du n=true){bs:List Blk}{left:List Le}{out:List Blk}(h:W4 n bs left out):(∀x∈left,Fe n x)->bs.length+left.length<=1000->loop (pkF n) (bs,left)=some (Aj8 out):=by
 induction h with
 | nil bs=>
  intro _ _;refine Ac5 ?_
  unfold pkF Aj8
  try dsimp only
  rw[df (show ¬0<(([]:List Le).length:Int)by simp),cond_false];by_cases c:64<(bs.length:Int)
  ·rw[dt c,cond_true,if_pos c];rfl
  ·rw[df c,cond_false,if_neg c];rfl
 | two bs e rest b out h1 h2 _ ih=>
  intro ho hl;simp only[Ab]at hl;have hs:=Aka hb hn e rest bs ho (by omega) (by omega);rw[h1,show b1 ((b:Nat):Int)=((b+1:Nat):Int)by unfold b1;rw[if_neg (by omega)];omega,if_pos (show(0:Int)<((b+1:Nat):Int)by omega),Int.toNat_natCast]at hs;rw[S2 hs];refine ih (fun x hx=> ?_) ?_
  ·rcases List.mem_append.1 hx with q | q
   ·exact ho x (List.mem_cons_of_mem _ (List.mem_of_mem_take q))
   ·exact ho x (List.mem_cons_of_mem _ (List.mem_of_mem_drop q))
  ·simp only[Ad,Ab,Ac,List.length_take,List.length_drop];omega
 | one bs e rest out h1 _ ih=>
  intro ho hl;simp only[Ab]at hl;have hs:=Aka hb hn e rest bs ho (by omega) (by omega);rw[show b1 (scP n e rest rest.length).1= -1 by unfold b1;rw[if_pos h1],if_neg (show ¬(0:Int)< -1 by omega)]at hs;rw[S2 hs];refine ih (fun x hx=>ho x (List.mem_cons_of_mem _ hx)) ?_
  simp only[Ad,Ab,Ac];omega
end Go.Pf
/-
  Own work. Packing, plainly: the reference's loop.
-/
namespace Go.Pf
open Go Go.Pu
set_option linter.unusedVariables false
def lft (N:Nat)(U:List Bool)(i:Nat):List Nat:=(List.range' i (N - i)).filter fun j=> !bAu U j
theorem Awc (N:Nat)(U:List Bool):lft N U N=[]:=by unfold lft;rw[Nat.sub_self];rfl
theorem Ac6 {N i:Nat}(h:i<N)(U:List Bool):lft N U i=if bAu U i=true then lft N U (i+1)else i::lft N U (i+1):=by
 unfold lft;rw[show N - i=(N - (i+1))+1 by omega,List.range'_succ,List.filter_cons];cases bAu U i<;>rfl
theorem Aos {N i:Nat}{U:List Bool}{j:Nat}(h:j∈lft N U i):i<=j/\j<N/\bAu U j=false:=by
 unfold lft at h;rw[List.mem_filter,List.mem_range'_1]at h;obtain⟨h1,h2⟩:=h;refine⟨by omega,by omega,by simpa using h2⟩
theorem Awd (N:Nat)(U:List Bool)(i:Nat):(lft N U i).length<=N - i:=by
 unfold lft;exact Nat.le_trans (List.length_filter_le _ _) (by rw[List.length_range'];exact Nat.le_refl _)
theorem Aot:∀(I:List Nat) (b:Nat) (h:b<I.length),I.Nodup->I.filter (fun j=> !(j==I[b]))=I.take b++I.drop (b+1)
 | [],b,h,_=>by simp at h
 | x::xs,0,h,hn=>by
  rw[List.nodup_cons]at hn;rw[List.filter_cons,if_neg (by simp)];show xs.filter (fun j=> !(j==x))=[]++xs;rw[List.nil_append];refine List.filter_eq_self.2 fun a ha=> ?_
  have:a≠x:=fun e=>hn.1 (by rw[<-e];exact ha)
  simp[this]
 | x::xs,b+1,h,hn=>by
  rw[List.nodup_cons]at hn;have hb:b<xs.length:=by simpa using h
  have hx:x≠xs[b]:=fun e=>hn.1 (by rw[e];exact List.getElem_mem hb)
  rw[List.filter_cons,if_pos (by simpa using hx)];show x::xs.filter (fun j=> !(j==xs[b]))=x::(xs.take b++xs.drop (b+1));rw[Aot xs b hb hn.2]
theorem Awe {U:List Bool}{a:Nat}(h:a<U.length)(j:Nat):bAu (U.set a true) j=if j=a then true else bAu U j:=by
 unfold bAu;rw[List.getD,List.getD,List.getElem?_set];by_cases c:a=j
 ·subst c;simp[h]
 ·rw[if_neg c,if_neg (fun e=>c e.symm)]
theorem Awf {N i:Nat}{U:List Bool}(hU:U.length=N){b:Nat}(hb:b<(lft N U i).length):lft N (U.set ((lft N U i).getD b 0) true) i=(lft N U i).take b++(lft N U i).drop (b+1):=by
 have hn:(lft N U i).Nodup:=List.Pairwise.sublist List.filter_sublist (List.nodup_range' (s:=i) (n:=N - i));have e:(lft N U i).getD b 0=(lft N U i)[b]:=by rw[List.getD,List.getElem?_eq_getElem hb];rfl
 rw[<-Aot _ b hb hn,e];have ha:=(Aos (List.getElem_mem hb)).2.1;generalize (lft N U i)[b]=a at*;unfold lft;rw[List.filter_filter];refine List.filter_congr fun j hj=> ?_
 rw[Awe (by omega)];by_cases c:j=a
 ·subst c;simp
 ·rw[if_neg c];simp[c]
def Jz (U:List Bool)(i t:Nat):Nat:=((List.range' i t).filter fun j=> !bAu U j).length
theorem Aq1 (U:List Bool)(i t:Nat):Jz U i (t+1)=if bAu U (i+t)=true then Jz U i t else Jz U i t+1:=by
 unfold Jz;rw[List.range'_concat,List.filter_append,Ad,Nat.one_mul];cases h:bAu U (i+t)<;>simp[h]
theorem Ayx {N i t:Nat}(U:List Bool)(h:i+t<N)(hf:bAu U (i+t)=false):Jz U i t<(lft N U i).length/\(lft N U i).getD (Jz U i t) 0=i+t:=by
 have e:lft N U i=((List.range' i t).filter fun j=> !bAu U j)++((i+t)::lft N U (i+t+1)):=by
  have h1:=Ac6 (N:=N) (i:=i+t) h U;rw[if_neg (by simp[hf])]at h1;rw[<-h1];unfold lft;rw[<-List.filter_append,show N - i=t+(N - (i+t))by omega,<-List.range'_append,Nat.one_mul]
 have e2:Jz U i t=((List.range' i t).filter fun j=> !bAu U j).length:=rfl;rw[e,e2];refine⟨by rw[Ad,Ab];omega,?_⟩;rw[List.getD,List.getElem?_append_right (Nat.le_refl _),Nat.sub_self];rfl
def Aeb (I:List Nat)(b:Int):Int:=if b<0 then -1 else((I.getD b.toNat 0:Nat):Int)
theorem Akb (les:List Le){I:List Nat}{k:Nat}(h:k<I.length):Cp (I.map (Cp les)) k=Cp les (I.getD k 0):=by
 rw[show Cp (I.map (Cp les)) k=(I.map (Cp les)).getD k (0,0)from rfl,List.getD,List.getElem?_map,List.getD,List.getElem?_eq_getElem h];rfl
noncomputable def pkG (v0:Net)(v11:List Le):(Int×(List Blk×List Bool))->Option ((Int×(List Blk×List Bool))⊕(List Blk×Bool)):=(fun(v14:(Int×(List (Int×(Int×List (Int×Int)))×List Bool)))=>
 let v15:Int:=((v11).length:Int)
 let v16:Bool:=decide (v14.1<v15)
 bif v16 then(
  (gin (v14.2.2).length v14.1).bind fun _=>
  (Ak false v14.2.2 v14.1).bind fun v18=>
  bif v18 then(
   let v19:Int:=wrap .i64 (v14.1+1)
   some (.inl (v19,v14.2)))else
  let v19:Int:=((v14.2.1).length:Int)
  let v20:Bool:=decide (v19=64)
  bif v20 then(
   Option.map Sum.inr (
    some (([]:List (Int×(Int×List (Int×Int)))),false)))else
  let v21:Int:=wrap .i64 (v14.1+1)
  Pu.loop (fun(v22:(Int×(Int×Int)))=>
   let v23:Int:=((v11).length:Int)
   let v24:Bool:=decide (v22.1<v23)
   bif v24 then(
    (gin (v14.2.2).length v22.1).bind fun _=>
    (Ak false v14.2.2 v22.1).bind fun v26=>
    bif v26 then(
     let v27:Int:=wrap .i64 (v22.1+1)
     some (.inl (v27,v22.2)))else
    (gin (v11).length v14.1).bind fun _=>
    (Ak (0,0) v11 v14.1).bind fun v28=>
    (gin (v11).length v22.1).bind fun _=>
    (Ak (0,0) v11 v22.1).bind fun v30=>
    let v31:List (Int×Int):=[v28,v30]
    (F6 (v0,v31)).bind fun v32=>
    let v33:Int:=((v32).length:Int)
    let v34:Bool:=decide (5<v33)
    bif v34 then(
     let v35:Int:=wrap .i64 (v22.1+1)
     some (.inl (v35,v22.2)))else
    (gin (v11).length v14.1).bind fun _=>
    (Ak (0,0) v11 v14.1).bind fun v36=>
    (gin (v11).length v22.1).bind fun _=>
    (Ak (0,0) v11 v22.1).bind fun v38=>
    (G9 (v0,(v36,v38))).bind fun v39=>
    let v40:Bool:=decide (v22.2.2<v39)
    bif v40 then(
     let v41:Int:=wrap .i64 (v22.1+1)
     some (.inl (v41,(v22.1,v39))))else
    let v41:Int:=wrap .i64 (v22.1+1)
    some (.inl (v41,v22.2)))else
   Option.map Sum.inr (
    (gin (v11).length v14.1).bind fun _=>
    (Ak (0,0) v11 v14.1).bind fun v26=>
    let v27:List (Int×Int):=[v26]
    let v28:Bool:=decide (0<=v22.2.1)
    bif v28 then(
     (gin (v11).length v22.2.1).bind fun _=>
     (Ak (0,0) v11 v22.2.1).bind fun v30=>
     let v31:List (Int×Int):=[v30]
     (A3 16 v27 v31).bind fun v32=>
     (gin (v14.2.2).length v22.2.1).bind fun _=>
     (Ak false v14.2.2 v22.2.1).bind fun v34=>
     let v35:Bool:=true
     let v36:List Bool:=A8 v14.2.2 v22.2.1 v35
     let v37:List (Int×(Int×List (Int×Int))):=[(3,(0,v32))]
     (A3 40 v14.2.1 v37).bind fun v38=>
     let v39:Int:=wrap .i64 (v14.1+1)
     some (.inl (v39,(v38,v36))))else
    let v29:List (Int×(Int×List (Int×Int))):=[(3,(0,v27))]
    (A3 40 v14.2.1 v29).bind fun v30=>
    let v31:Int:=wrap .i64 (v14.1+1)
    some (.inl (v31,(v30,v14.2.2))))) (v21,((-1),(-1))))else
 Option.map Sum.inr (
  let v17:Int:=((v14.2.1).length:Int)
  let v18:Bool:=decide (v17<=64)
  some (v14.2.1,v18)))
theorem Atp {n:Net}(hb:M3 n)(hn:Du n=true)(les:List Le)(bs:List Blk)(U:List Bool)(i:Nat)(ho:∀x∈les,Fe n x)(hl:les.length<=1000)(hU:U.length=les.length)(hi:i<les.length)(hf:bAu U i=false)(hbl:bs.length<64)(I:List Nat)(hI:I=lft les.length U (i+1))(e:Le)(hee:e=Cp les i)(rest:List Le)(hre:rest=I.map (Cp les)):
 pkG n les ((i:Int),(bs,U))=some (.inl (if 0<=(scP n e rest rest.length).1 then(((i+1:Nat):Int),(bs++[(3,(0,[e,Cp rest (scP n e rest rest.length).1.toNat]))],U.set (I.getD (scP n e rest rest.length).1.toNat 0) true))else(((i+1:Nat):Int),(bs++[(3,(0,[e]))],U)))):=by
 have he:Fe n e:=by rw[hee];exact ho _ (Ac4 hi)
 have hIl:I.length<=les.length - (i+1):=by rw[hI];exact Awd _ _ _
 have hrl:rest.length=I.length:=by rw[hre,Ae]
 have hge:Ak ((0,0):Le) les (i:Int)=some e:=by rw[Lh hi,hee]
 have hgi:gin les.length (i:Int)=some ():=As hi;unfold pkG
 try dsimp only
 rw[dt (show(i:Int)<(les.length:Int)by omega),cond_true,As (show i<U.length by omega),Qs (by omega),hf];simp only[Aa];rw[cond_false,df (show ¬(bs.length:Int)=64 by omega),cond_false,Aj (by omega)];have e0:((i:Int)+1,((-1:Int),(-1:Int)))=(fun t:Nat=>(((i+1+t:Nat):Int),(Aeb I (scP n e rest (Jz U (i+1) t)).1,(scP n e rest (Jz U (i+1) t)).2))) 0:=by
  simp[Jz,scP,Aeb]
 rw[e0];refine Ao (les.length - (i+1)) (fun t:Nat=>(((i+1+t:Nat):Int),(Aeb I (scP n e rest (Jz U (i+1) t)).1,(scP n e rest (Jz U (i+1) t)).2))) (fun t ht=> ?_) ?_
 ·have hj:i+1+t<les.length:=by omega
  have hs:=Aq1 U (i+1) t;have hw:wrap .i64 (((i+1+t:Nat):Int)+1)=((i+1+(t+1):Nat):Int):=by rw[Aj (by omega)];omega
  try dsimp only
  rw[dt (show((i+1+t:Nat):Int)<(les.length:Int)by omega),cond_true,As (show i+1+t<U.length by omega),Qs (show i+1+t<U.length by omega)];simp only[Aa];cases hu:bAu U (i+1+t)with
  | true=>
   rw[hu,if_pos rfl]at hs;rw[cond_true,hs,hw]
  | false=>
   rw[hu,if_neg (by simp)]at hs;obtain⟨a1,a2⟩:=Ayx U hj hu;rw[<-hI]at a1 a2;have hr:Cp rest (Jz U (i+1) t)=Cp les (i+1+t):=by rw[hre,Akb les a1,a2]
   have hro:=ho _ (Ac4 hj);have hgj:Ak ((0,0):Le) les ((i+1+t:Nat):Int)=some (Cp les (i+1+t)):=Lh hj;have hgj2:gin les.length ((i+1+t:Nat):Int)=some ():=As hj;rw[cond_false,hge,hgj,hgi,hgj2];simp only[Aa];rw[Yh hb hn (Azq he hro) (by simp)];simp only[Aa];rw[hs];show _=some (Sum.inl (((i+1+(t+1):Nat):Int),(Aeb I (if(Lk n [e,Cp rest (Jz U (i+1) t)]).length<=5/\(scP n e rest (Jz U (i+1) t)).2<com n e (Cp rest (Jz U (i+1) t))then(((Jz U (i+1) t:Nat):Int),com n e (Cp rest (Jz U (i+1) t)))else scP n e rest (Jz U (i+1) t)).1,(if(Lk n [e,Cp rest (Jz U (i+1) t)]).length<=5/\(scP n e rest (Jz U (i+1) t)).2<com n e (Cp rest (Jz U (i+1) t))then(((Jz U (i+1) t:Nat):Int),com n e (Cp rest (Jz U (i+1) t)))else scP n e rest (Jz U (i+1) t)).2)));rw[hr];by_cases c1:5<((Lk n [e,Cp les (i+1+t)]).length:Int)
   ·rw[dt c1,cond_true,if_neg (fun q=>by omega),hw]
   ·rw[df c1,cond_false,Ato hn he hro];simp only[Aa];by_cases c2:(scP n e rest (Jz U (i+1) t)).2<com n e (Cp les (i+1+t))
    ·have e1:Aeb I ((Jz U (i+1) t:Nat):Int)=((i+1+t:Nat):Int):=by
      unfold Aeb;rw[if_neg (by omega),Int.toNat_natCast,a2]
     rw[dt c2,cond_true,if_pos ⟨by omega,c2⟩,hw,e1]
    ·rw[df c2,cond_false,if_neg (fun q=>c2 q.2),hw]
 ·have hc:Jz U (i+1) (les.length - (i+1))=rest.length:=by rw[hrl,hI];rfl
  have hsc:=Ahe hn he rest rest.length;rw[hc];generalize scP n e rest rest.length=s at*;have hlen:((i+1+(les.length - (i+1)):Nat):Int)=(les.length:Int):=by omega
  try dsimp only
  rw[hlen,df (show ¬(les.length:Int)<(les.length:Int)by omega),cond_false];refine Ac0 ?_
  rw[hge,hgi];simp only[Aa];by_cases c:s.1<0
  ·have e1:Aeb I s.1= -1:=by unfold Aeb;rw[if_pos c]
   rw[e1,df (show ¬(0:Int)≤-1 by omega),cond_false,if_neg (show ¬0<=s.1 by omega),Oi (by simp only[Ab,Ac];omega)];rfl
  ·obtain⟨b,hb'⟩:∃b:Nat,s.1=(b:Int):=⟨s.1.toNat,by omega⟩;have hbI:b<I.length:=by omega
   have hm:I.getD b 0∈I:=by rw[List.getD,List.getElem?_eq_getElem hbI];exact List.getElem_mem hbI
   have ha:I.getD b 0<les.length:=by
    have q:∀j∈I,j<les.length:=fun j hj=>by rw[hI]at hj;exact(Aos hj).2.1
    exact q _ hm
   have hr:Cp rest b=Cp les (I.getD b 0):=by rw[hre,Akb les hbI]
   have e1:Aeb I s.1=((I.getD b 0:Nat):Int):=by unfold Aeb;rw[if_neg c,hb',Int.toNat_natCast]
   rw[e1,dt (show(0:Int)<=((I.getD b 0:Nat):Int)by omega),cond_true,if_pos (show 0<=s.1 by omega),As ha,Lh ha,hb',Int.toNat_natCast,hr];generalize I.getD b 0=a at*;simp only[Aa];rw[Ju (by simp),As (show a<U.length by omega),Qs (show a<U.length by omega)];simp only[Aa];rw[Oi (by simp only[Ab,Ac];omega),B8];rfl
theorem Aac {n:Net}(hb:M3 n)(hn:Du n=true)(les:List Le)(ho:∀x∈les,Fe n x)(hl:les.length<=1000):∀(m i:Nat) (bs:List Blk) (U:List Bool) (out:List Blk),i+m=les.length->U.length=les.length->bs.length<=64->W4 n bs ((lft les.length U i).map (Cp les)) out->loop (pkG n les) ((i:Int),(bs,U))=some (Aj8 out)
 | 0,i,bs,U,out,hm,hU,hbl,hp=>by
  have e:i=les.length:=by omega
  subst e;rw[Awc]at hp;have eo:out=bs:=by cases hp;rfl
  subst eo;refine Ac5 ?_
  unfold pkG Aj8
  try dsimp only
  rw[df (show ¬(les.length:Int)<(les.length:Int)by omega),cond_false,dt (show(out.length:Int)<=64 by omega),if_neg (by omega)];rfl
 | m+1,i,bs,U,out,hm,hU,hbl,hp=>by
  have hi:i<les.length:=by omega
  cases hf:bAu U i with
  | true=>
   rw[Ac6 hi,if_pos hf]at hp;have hs:pkG n les ((i:Int),(bs,U))=some (.inl (((i+1:Nat):Int),(bs,U))):=by
    unfold pkG
    try dsimp only
    rw[dt (show(i:Int)<(les.length:Int)by omega),cond_true,As (show i<U.length by omega),Qs (by omega),hf];simp only[Aa];rw[cond_true,Aj (by omega)];rfl
   rw[S2 hs];exact Aac hb hn les ho hl m (i+1) bs U out (by omega) hU hbl hp
  | false=>
   rw[Ac6 hi,if_neg (by simp[hf])]at hp;by_cases c64:bs.length=64
   ·have hg:=(Ac3 hp).2.1 (by simp);refine Ac5 ?_
    unfold pkG Aj8
    try dsimp only
    rw[dt (show(i:Int)<(les.length:Int)by omega),cond_true,As (show i<U.length by omega),Qs (by omega),hf];simp only[Aa];rw[cond_false,dt (show(bs.length:Int)=64 by omega),cond_true,if_pos (by omega)];rfl
   ·have hs:=Atp hb hn les bs U i ho hl hU hi hf (by omega) _ rfl _ rfl _ rfl;rw[List.map_cons]at hp;generalize hI:lft les.length U (i+1)=I at*;generalize hre:I.map (Cp les)=rest at*;have hrl:rest.length=I.length:=by rw[<-hre,Ae]
    generalize hee:Cp les i=e at*;cases hp with
    | two _ _ _ b _ h1 h2 h3=>
     rw[h1,if_pos (by omega),Int.toNat_natCast]at hs;rw[S2 hs];refine Aac hb hn les ho hl m (i+1) _ _ out (by omega) (by rw[List.length_set];exact hU) (by simp only[Ad,Ab,Ac];omega) ?_
     have h4:=Awf (i:=i+1) hU (b:=b) (by rw[hI];omega);rw[hI]at h4;rw[h4,List.map_append,List.map_take,List.map_drop,hre];exact h3
    | one _ _ _ _ h1 h2=>
     rw[if_neg (by omega)]at hs;rw[S2 hs];refine Aac hb hn les ho hl m (i+1) _ _ out (by omega) hU (by simp only[Ad,Ab,Ac];omega) ?_
     rw[hI,hre];exact h2
end Go.Pf
/-
  Own work. Packing, plainly: both functions.
-/
namespace Go.Pf
open Go Go.Pu
set_option linter.unusedVariables false
def pdA:Nat->List Blk
 | 0=>[]
 | k+1=>pdA k++[(0,((k:Int),[]))]
def otA (n:Net):Nat->List Blk
 | 0=>pdA n.1.toNat
 | k+1=>otA n k++[(1,((k:Int),[]))]
def sqA (n:Net):Nat->List Blk
 | 0=>otA n n.2.2.2.length
 | k+1=>if(Bm n.2.1 k).1=1 then sqA n k++[(2,((k:Int),[]))]else sqA n k
def B2 (bs:List Blk):Prop:=∀b∈bs,b.2.2.length<=2
theorem B2.app {bs:List Blk}(h:B2 bs){x:Blk}(hx:x.2.2.length<=2):B2 (bs++[x]):=fun b hb=>by
 rcases List.mem_append.1 hb with q | q
 ·exact h b q
 ·rw[List.mem_singleton]at q;rw[q];exact hx
theorem Amo (k:Nat):(pdA k).length=k/\B2 (pdA k):=by
 induction k with
 | zero=>exact⟨rfl,fun b hb=>by cases hb⟩
 | succ k ih=>
  show(pdA k++[(0,((k:Int),[]))]).length=_/\B2 (pdA k++[(0,((k:Int),[]))]);exact⟨by rw[Ad];simp only[Ab,Ac];omega,ih.2.app (by simp)⟩
theorem Amp (n:Net)(k:Nat):(otA n k).length=n.1.toNat+k/\B2 (otA n k):=by
 induction k with
 | zero=>exact Amo _
 | succ k ih=>
  show(otA n k++[(1,((k:Int),[]))]).length=_/\B2 (otA n k++[(1,((k:Int),[]))]);exact⟨by rw[Ad];simp only[Ab,Ac];omega,ih.2.app (by simp)⟩
theorem Amq (n:Net)(k:Nat):(sqA n k).length<=n.1.toNat+n.2.2.2.length+k/\B2 (sqA n k):=by
 induction k with
 | zero=>
  have:=Amp n n.2.2.2.length;exact⟨by show(otA n n.2.2.2.length).length<=_;omega,this.2⟩
 | succ k ih=>
  show(if(Bm n.2.1 k).1=1 then sqA n k++[(2,((k:Int),[]))]else sqA n k).length<=_/\B2 (if(Bm n.2.1 k).1=1 then sqA n k++[(2,((k:Int),[]))]else sqA n k);split
  ·exact⟨by rw[Ad];simp only[Ab,Ac];omega,ih.2.app (by simp)⟩
  ·exact⟨by omega,ih.2⟩
theorem Atq (n:Net)(hb:M3 n):∃o:List Blk×Bool,Ya n=some o/\O4 n=some o/\o.1.length<=64/\B2 o.1:=by
 cases hn:Du n with
 | false=>
  refine⟨([],false),?_,?_,by simp,fun b hb=>by cases hb⟩
  ·unfold Ya;rw[Aj1 n hb,hn];rfl
  ·unfold O4;rw[W0 n hb,hn];rfl
 | true=>
  obtain⟨hln,_⟩:=Cx hn;obtain⟨l1,l2,l3,l4⟩:=hln;obtain⟨hel,heo⟩:=Amm hn n.2.2.1.length (Nat.le_refl _)
  change (elP n).length<=_ at hel
  change ∀e∈elP n,Fe n e at heo
  obtain⟨hsq,hs2⟩:=Amq n n.2.1.length;obtain⟨out,hp⟩:=Ac2 hn (elP n).length (sqA n n.2.1.length) (elP n) (Nat.le_refl _) heo;have hg:=(Ac3 hp).2.2 hs2;refine⟨Aj8 out,?_,?_,?_,?_⟩
  ·unfold Ya;rw[Aj1 n hb,hn];simp only[Aa];rw[Bool.not_true,cond_false];refine Ao n.1.toNat (fun k=>(pdA k,(k:Int))) (fun k hk=> ?_) ?_
   ·have hpl:=(Amo k).1
    try dsimp only
    rw[dt (show(k:Int)<n.1 by omega),cond_true,Oi (by simp only[Ab,Ac];omega)];simp only[Aa];rw[Aj (by omega)];rfl
   try dsimp only
   rw[df (show ¬((n.1.toNat:Nat):Int)<n.1 by omega),cond_false];refine Ac0 ?_
   refine Ao n.2.2.2.length (fun k=>((k:Int),otA n k)) (fun k hk=> ?_) ?_
   ·have hpl:=(Amp n k).1
    try dsimp only
    rw[dt (show(k:Int)<(n.2.2.2.length:Int)by omega),cond_true,Oi (by simp only[Ab,Ac];omega)];simp only[Aa];rw[Aj (by omega)];rfl
   try dsimp only
   rw[df (show ¬(n.2.2.2.length:Int)<(n.2.2.2.length:Int)by omega),cond_false];refine Ac0 ?_
   refine Ao n.2.1.length (fun k=>((k:Int),sqA n k)) (fun k hk=> ?_) ?_
   ·have hpl:=(Amq n k).1
    try dsimp only
    rw[dt (show(k:Int)<(n.2.1.length:Int)by omega),cond_true,(Hw hk).1];simp only[Aa];show _=some (Sum.inl (((k+1:Nat):Int),if(Bm n.2.1 k).1=1 then sqA n k++[(2,((k:Int),[]))]else sqA n k));by_cases c:(Bm n.2.1 k).1=1
    ·rw[dt c,cond_true,if_pos c,Oi (by simp only[Ab,Ac];omega)];simp only[Aa];rw[Aj (by omega)];rfl
    ·rw[df c,cond_false,if_neg c,Aj (by omega)];rfl
   try dsimp only
   rw[df (show ¬(n.2.1.length:Int)<(n.2.1.length:Int)by omega),cond_false];refine Ac0 ?_
   rw[Av9 hb hn];simp only[Aa];exact Awb hb hn hp heo (by omega)
  ·unfold O4;rw[W0 n hb,hn];simp only[Aa];rw[Bool.not_true,cond_false];refine Ao n.1.toNat (fun k=>((k:Int),pdA k)) (fun k hk=> ?_) ?_
   ·have hpl:=(Amo k).1
    try dsimp only
    rw[dt (show(k:Int)<n.1 by omega),cond_true,Oi (by simp only[Ab,Ac];omega)];simp only[Aa];rw[Aj (by omega)];rfl
   try dsimp only
   rw[df (show ¬((n.1.toNat:Nat):Int)<n.1 by omega),cond_false];refine Ac0 ?_
   refine Ao n.2.2.2.length (fun k=>((k:Int),otA n k)) (fun k hk=> ?_) ?_
   ·have hpl:=(Amp n k).1
    try dsimp only
    rw[dt (show(k:Int)<(n.2.2.2.length:Int)by omega),cond_true,Oi (by simp only[Ab,Ac];omega)];simp only[Aa];rw[Aj (by omega)];rfl
   try dsimp only
   rw[df (show ¬(n.2.2.2.length:Int)<(n.2.2.2.length:Int)by omega),cond_false];refine Ac0 ?_
   refine Ao n.2.1.length (fun k=>((k:Int),sqA n k)) (fun k hk=> ?_) ?_
   ·have hpl:=(Amq n k).1
    try dsimp only
    rw[dt (show(k:Int)<(n.2.1.length:Int)by omega),cond_true,(Hw hk).1];simp only[Aa];show _=some (Sum.inl (((k+1:Nat):Int),if(Bm n.2.1 k).1=1 then sqA n k++[(2,((k:Int),[]))]else sqA n k));by_cases c:(Bm n.2.1 k).1=1
    ·rw[dt c,cond_true,if_pos c,Oi (by simp only[Ab,Ac];omega)];simp only[Aa];rw[Aj (by omega)];rfl
    ·rw[df c,cond_false,if_neg c,Aj (by omega)];rfl
   try dsimp only
   rw[df (show ¬(n.2.1.length:Int)<(n.2.1.length:Int)by omega),cond_false];refine Ac0 ?_
   rw[Awa hb hn];simp only[Aa];rw[Bz (by omega) (by omega)];simp only[Aa];have hU:∀j,bAu (List.replicate (elP n).length false) j=false:=fun j=>by
    unfold bAu;rw[List.getD,List.getElem?_replicate];split<;>rfl
   have hl:(lft (elP n).length (List.replicate (elP n).length false) 0).map (Cp (elP n))=elP n:=by
    unfold lft;rw[List.filter_eq_self.2 (fun j _=>by rw[hU j];rfl)];refine List.ext_getElem (by simp) fun j h1 h2=> ?_
    simp only[List.getElem_map,List.getElem_range',Nat.zero_add,Nat.one_mul];exact(Afl h2).symm
   refine Aac hb hn (elP n) heo (by omega) (elP n).length 0 _ _ out (by omega) (by simp) (by omega) ?_
   rw[hl];exact hp
  ·unfold Aj8;split
   ·simp
   ·simp only;omega
  ·unfold Aj8;split
   ·exact fun b hb=>by cases hb
   ·exact hg
end Go.Pf
/-
  Own work. Draws, plainly: random placements.
-/
namespace Go.Pf
open Go Go.Pu
set_option linter.unusedVariables false
theorem Ph:∀(xs ys:List Int),xs.Nodup->(∀x∈xs,x∈ys)->xs.length<=ys.length
 | [],_,_,_=>by simp
 | x::xs,ys,h,hs=>by
  have hx:=hs x (by simp);obtain⟨h1,h2⟩:=List.nodup_cons.1 h;have e:=Ph xs (ys.erase x) h2 (fun y hy=>by
   have hne:y≠x:=fun e=>h1 (e▸hy)
   exact(List.mem_erase_of_ne hne).2 (hs y (by simp[hy])))
  rw[List.length_erase_of_mem hx]at e;have:=List.length_pos_of_mem hx;simp only[Ab];omega
theorem Aec (d:Dev)(k:Int)(n:Nat):(Ij d k n).Nodup:=by
 unfold Ij;refine List.Pairwise.filter _ ?_
 refine List.Pairwise.map _ (fun a b h e=>h (by omega)) (List.nodup_range (n:=n))
theorem Nz {d:Dev}{k:Int}{n:Nat}{t:Int}:t∈Ij d k n↔(0<=t/\t<n)/\tkp d t=k:=by
 unfold Ij;rw[List.mem_filter,List.mem_map]
 constructor
 ·rintro⟨⟨j,hj,rfl⟩,h2⟩
  have:=List.mem_range.1 hj;exact⟨by omega,of_decide_eq_true h2⟩
 ·rintro⟨h1,h2⟩
  exact⟨⟨t.toNat,List.mem_range.2 (by omega),by omega⟩,decide_eq_true h2⟩
theorem Vc {d:Dev}{k t:Int}(hd:DOk d)(hk:0<=k):t∈Fd d k↔tk d t=k:=by
 unfold Fd tk;rw[if_pos hd,Nz];have hm:=By hd.1 hd.2.1;by_cases h:0<=t/\t<d.1*d.2.1
 ·rw[if_pos ⟨hd,h⟩];exact⟨fun e=>e.2,fun e=>⟨by omega,e⟩⟩
 ·rw[if_neg (fun e=>h e.2)];exact⟨fun e=>absurd ⟨e.1.1,by omega⟩ h,fun e=>by omega⟩
theorem Ac7 {d:Dev}{k t:Int}(h:t∈Fd d k):0<=k:=by
 unfold Fd at h;split at h
 ·have:=(Nz.1 h).2;have:=Ab1 d t;omega
 ·cases h
theorem Ahf (d:Dev)(k:Int):(Fd d k).Nodup:=by
 unfold Fd;split
 ·exact Aec _ _ _
 ·exact List.nodup_nil
structure Pl (d:Dev)(ks ps:List Int):Prop where
 eq:ps.map (tk d)=ks.map bt
 nd:ps.Nodup
 ge:∀p∈ps,0<=tk d p
def Fit (d:Dev)(ks:List Int):Prop:=∀k,(ks.map bt).count k<=(Fd d k).length
theorem W5 (f:Int->Int)(ps:List Int)(k:Int):(ps.map f).count k=(ps.filter fun p=>decide (f p=k)).length:=by
 rw[List.count_eq_countP,List.countP_map,List.countP_eq_length_filter]
 congr 1
theorem Pl.fit {d:Dev}{ks ps:List Int}(hd:DOk d)(h:Pl d ks ps):Fit d ks:=fun k=>by
 rw[<-h.eq,W5];refine Ph _ _ (List.Pairwise.filter _ h.nd) fun x hx=> ?_
 have:=of_decide_eq_true (List.mem_filter.1 hx).2;have h0:=h.ge x (List.mem_filter.1 hx).1;exact(Vc hd (by omega)).2 this
theorem Pl.full {d:Dev}{ks ps:List Int}{k:Int}(hd:DOk d)(h:Pl d ks ps)(ha:∀t∈Fd d k,t∈ps):(Fd d k).length<=(ks.map bt).count k:=by
 rw[<-h.eq,W5];refine Ph _ _ (Ahf _ _) fun x hx=> ?_
 exact List.mem_filter.2 ⟨ha x hx,decide_eq_true ((Vc hd (Ac7 hx)).1 hx)⟩
theorem Pl.len {d:Dev}{ks ps:List Int}(h:Pl d ks ps):ps.length=ks.length:=by
 have:=congrArg List.length h.eq;simpa using this
theorem Pl.nil (d:Dev):Pl d [] []:=⟨rfl,List.nodup_nil,fun p hp=>by cases hp⟩
theorem Pl.snoc {d:Dev}{ks ps:List Int}{k t:Int}(h:Pl d ks ps)(ht:tk d t=bt k)(h0:0<=tk d t)(hn:t∉ps):Pl d (ks++[k]) (ps++[t]):=by
 refine⟨?_,?_,?_⟩
 ·rw[List.map_append,List.map_append,h.eq];simp[ht]
 ·rw[List.nodup_append];refine⟨h.nd,by simp,fun a ha b hb e=> ?_⟩;rw[List.mem_singleton]at hb;subst hb;subst e;exact hn ha
 ·intro p hp;rcases List.mem_append.1 hp with q | q
  ·exact h.ge p q
  ·rw[List.mem_singleton]at q;subst q;exact h0
theorem Amr {d:Dev}{t:Int}(h:0<=tk d t):DOk d/\0<=t/\t<d.1*d.2.1:=by
 unfold tk at h;split at h
 ·rename_i q;exact q
 ·omega
theorem Pl.place {d:Dev}{ks ps:List Int}(h:Pl d ks ps)(hd:DOk d)(hl:ks.length<=64):Al9 d ks ps=true:=by
 have el:=h.len;unfold Al9;rw[dt ⟨hd,hl,el⟩,Bool.true_and,List.all_eq_true];intro k hk;have hk:=List.mem_range.1 hk;unfold Azl;rw[dif_pos ⟨hk,by omega⟩];refine decide_eq_true ⟨h.ge _ (List.getElem_mem _),?_,fun hm=> ?_⟩
 ·have e:=congrArg (fun l=>l[k]?) h.eq;simp only[List.getElem?_map]at e;rw[List.getElem?_eq_getElem (by omega),List.getElem?_eq_getElem hk]at e;simpa using e
 ·obtain⟨j,hj,e⟩:=List.getElem_of_mem hm;rw[List.length_take]at hj;rw[List.getElem_take]at e;have:=(List.getElem_inj h.nd).1 e;omega
theorem Pl.le36 {d:Dev}{ks ps:List Int}(h:Pl d ks ps)(hd:DOk d):((ps.length:Nat):Int)<=d.1*d.2.1:=by
 have hm:=By hd.1 hd.2.1;have e:=Ph ps ((List.range (d.1*d.2.1).toNat).map fun(t:Nat)=>(t:Int)) h.nd (fun x hx=>by
  have:=Amr (h.ge x hx);exact List.mem_map.2 ⟨x.toNat,List.mem_range.2 (by omega),by omega⟩)
 simp at e;omega
def RQ (d:Dev)(ks r:List Int):Prop:=(r=[]\/Pl d ks r)/\(Fit d ks->Pl d ks r)
theorem Aed {xs:List Int}{n:Nat}{k:Int}(hn:n<xs.length)(hk:bt (xs.getD n 0)=k):((xs.take n).map bt).count k+1<=(xs.map bt).count k:=by
 have e:((xs.take (n+1)).map bt).count k=((xs.take n).map bt).count k+1:=by
  rw[Bu xs n hn,List.map_append,List.count_append];have:bt xs[n]=k:=by rw[<-hk,List.getD,List.getElem?_eq_getElem hn];rfl
  simp[this]
 rw[<-e];refine List.Sublist.count_le _ ?_
 exact(List.take_sublist _ _).map _
theorem Qt {b:List Int}{c:Cur}(hb:M2 b)(hc:B5 b c){d:Dev}(hd:DOk d){ks:List Int}(hl:ks.length<=1000):Tot (Ei ((b,c),(d,ks))) (fun r=>RQ d ks r.1/\B5 b r.2):=by
 unfold Ei;dsimp only;have hm:=By hd.1 hd.2.1;obtain⟨N,hN⟩:∃N:Nat,d.1*d.2.1=(N:Int):=⟨(d.1*d.2.1).toNat,by omega⟩;rw[Aj (z:=d.1*d.2.1) (by omega)];refine Tot.make (by omega) (by omega) (by omega) ?_
 have e0:(d.1*d.2.1).toNat=N:=by omega
 rw[e0];refine Tot.lp (fun s=>(0<=s.1/\s.1<=(ks.length:Int))/\B5 b (s.2.1,s.2.2.1)/\Pl d (ks.take s.1.toNat) s.2.2.2.1/\s.2.2.2.2=E0 N s.2.2.2.1) (fun s=>((ks.length:Int) - s.1).toNat) ⟨⟨by simp only;omega,by simp only;omega⟩,hc,by simpa using Pl.nil d,Tx N⟩ (fun s hs=> ?_);obtain⟨i,p1,p2,ps,us⟩:=s;obtain⟨⟨i0,i1⟩,hcur,hp,hus⟩:=hs;simp only at i0 i1 hcur hp hus;dsimp only;subst hus;refine Tot.dite (fun h1=> ?_) (fun h1=>Tot.exit (Tot.ret ?_))
 rotate_left
 ·have e:i.toNat=ks.length:=by omega
  rw[e,List.take_length]at hp;exact⟨⟨.inr hp,fun _=>hp⟩,hcur⟩
 refine Tot.get i0 h1 fun kd hkd hkm=> ?_
 refine Tot.bindEq (Avs kd) ?_
 refine Tot.bindEq (Acu d _) ?_
 have hTl:=Ami d (bt kd);have hTt:∀t∈Fd d (bt kd),tk d t=bt kd/\0<=bt kd/\0<=t/\t<(N:Int):=fun t ht=>by
  have h0:=Ac7 ht;have h2:=(Vc hd h0).1 ht;have h3:=Amr (d:=d) (t:=t) (by omega);exact⟨h2,h0,by omega⟩
 generalize hT:Fd d (bt kd)=T at*;refine Tot.below hb hcur fun st c' hc' hst0 hst1=> ?_
 refine Tot.join (A:=fun w=>(w<0/\∀t∈T,t∈ps)\/(w∈T/\w∉ps)) ?_ fun w hw=> ?_
 ·refine Tot.lp (fun s=>(0<=s.2/\s.2<=(T.length:Int))/\((s.1= -1/\∀j:Nat,(j:Int)<s.2->T.getD (((st+j) % (T.length:Int)).toNat) 0∈ps)\/(s.1∈T/\s.1∉ps))) (fun s=>((T.length:Int) - s.2).toNat) ⟨⟨by simp only;omega,by simp only;omega⟩,.inl ⟨rfl,fun j hj=>by simp only at hj;omega⟩⟩ (fun s hs=> ?_);obtain⟨w,j⟩:=s;obtain⟨⟨j0,j1⟩,hw⟩:=hs;simp only at j0 j1 hw;dsimp only;refine Tot.dite (fun h2=> ?_) (fun h2=>Tot.exit (Tot.ret ?_))
  rotate_left
  ·show(w<0/\∀t∈T,t∈ps)\/(w∈T/\w∉ps);rcases hw with⟨e,hj⟩ | hw
   ·refine .inl ⟨by omega,fun t ht=> ?_⟩;obtain⟨q,hq,e2⟩:=List.getElem_of_mem ht;have hst:=hst1 (by omega);by_cases hc2:st<=(q:Int)
    ·have:=hj (q - st.toNat) (by omega);rw[show st+((q - st.toNat:Nat):Int)=(q:Int)by omega,Int.emod_eq_of_lt (by omega) (by omega),Int.toNat_natCast,List.getD,List.getElem?_eq_getElem hq]at this;rw[<-e2];exact this
    ·have:=hj (q+T.length - st.toNat) (by omega);rw[show st+((q+T.length - st.toNat:Nat):Int)=(q:Int)+(T.length:Int)by omega,Int.add_emod_right,Int.emod_eq_of_lt (by omega) (by omega),Int.toNat_natCast,List.getD,List.getElem?_eq_getElem hq]at this;rw[<-e2];exact this
   ·exact .inr hw
  refine Tot.dite (fun h3=> ?_) (fun h3=> ?_)
  rotate_left
  ·refine Tot.exit (Tot.ret ?_);show(w<0/\∀t∈T,t∈ps)\/(w∈T/\w∉ps);rcases hw with⟨e,hj⟩ | hw
   ·omega
   ·exact .inr hw
  have hst:=hst1 (by omega);rw[Aj (z:=st+j) (by omega),Aj (z:=j+1) (by omega)];refine Tot.rem (by omega) (by omega) ?_
  have hr0:=Int.emod_nonneg (st+j) (b:=(T.length:Int)) (by omega);have hr1:=Int.emod_lt_of_pos (st+j) (b:=(T.length:Int)) (by omega);refine Tot.gin hr0 hr1 (Tot.get hr0 hr1 fun t ht htm=> ?_);obtain⟨t1,t2,t3,t4⟩:=hTt t htm;have hw1:w= -1/\∀j' :Nat,(j' :Int)<j->T.getD (((st+j') % (T.length:Int)).toNat) 0∈ps:=by
   rcases hw with q | q
   ·exact q
   ·have:=(hTt w q.1).2.2.1;omega
  obtain⟨tn,rfl⟩:∃tn:Nat,t=(tn:Int):=⟨t.toNat,by omega⟩;rw[Ep];refine Tot.gin (by omega) (by omega) ?_
  refine Tot.bindEq (Hr _ _ _ (by omega)) ?_
  refine Tot.ndite (fun h4=> ?_) (fun h4=> ?_)
  ·exact Tot.next ⟨⟨⟨by simp only;omega,by simp only;omega⟩,.inr ⟨htm,h4⟩⟩,by simp only;omega⟩
  ·refine Tot.next ⟨⟨⟨by simp only;omega,by simp only;omega⟩,.inl ⟨hw1.1,fun j' hj' => ?_⟩⟩,by simp only;omega⟩;simp only at hj';by_cases e:(j' :Int)=j
   ·rw[e,<-ht];exact h4
   ·exact hw1.2 j' (by omega)
 refine Tot.dite (fun h2=> ?_) (fun h2=> ?_)
 ·refine Tot.exit (Tot.ret ⟨⟨.inl rfl,fun hf=> ?_⟩,hc'⟩)
  exfalso
  rcases hw with⟨_,ha⟩ | ⟨hwm,_⟩
  ·have f1:=hf (bt kd);have f2:=hp.full hd (k:=bt kd) (by rw[hT];exact ha);have f3:=Aed (xs:=ks) (n:=i.toNat) (k:=bt kd) (by omega) (by rw[<-hkd]);omega
  ·have:=(hTt w hwm).2.2.1;omega
 rcases hw with⟨hw0,_⟩ | ⟨hwm,hwn⟩
 ·omega
 obtain⟨t1,t2,t3,t4⟩:=hTt w hwm;obtain⟨wn,rfl⟩:∃wn:Nat,w=(wn:Int):=⟨w.toNat,by omega⟩;rw[Ep];refine Tot.gin (by omega) (by omega) ?_
 refine Tot.bindEq (Hr _ _ _ (by omega)) ?_
 have hpl:=hp.len;rw[List.length_take]at hpl;refine Tot.app (by simp only[Ab,Ac];omega) (by omega) ?_
 rw[Tw _ _ _ (by omega),Aj (z:=i+1) (by omega)];refine Tot.next ⟨⟨⟨by simp only;omega,by simp only;omega⟩,hc',?_,rfl⟩,by simp only;omega⟩;have e1:(i+1).toNat=i.toNat+1:=by omega
 show Pl d (ks.take (i+1).toNat) _;rw[e1,Bu ks i.toNat (by omega)];have e2:ks[i.toNat]=kd:=by rw[hkd,List.getD,List.getElem?_eq_getElem (by omega)];rfl
 rw[e2];exact hp.snoc t1 (by omega) hwn
theorem Afo {bs:List Blk}(hl:bs.length<=1000):H6 bs=some (bs.map (·.1)):=by
 unfold H6;refine Ao bs.length (fun k=>((k:Int),(bs.take k).map (·.1))) (fun k hk=> ?_) ?_
 ·dsimp only;rw[dt (by omega),cond_true,Ar hk];simp only[Aa];rw[Br (by simp only[Ae,List.length_take,Ab,Ac];omega) (by simp only[Ae,List.length_take,Ab,Ac];omega)];simp only[Aa];rw[Aj (by omega),Bu bs k hk,List.map_append];rfl
 ·dsimp only;rw[df (by omega),cond_false,List.take_length];rfl
end Go.Pf
/-
  Own work. The span of a connection, plainly.
-/
namespace Go.Pf
open Go Go.Pu
set_option linter.unusedVariables false
def psV (ps:List Int)(i:Int):Int:=ps.getD i.toNat 0
def Atr (d:Dev)(ps:List Int)(p:Pin):Prop:=(0<=p.1/\p.1<(ps.length:Int))/\0<=tk d (psV ps p.1)
instance (d:Dev)(ps:List Int)(p:Pin):Decidable (Atr d ps p):=by unfold Atr;exact inferInstance
end Go.Pf
/-
  Own work. The law of connections, plainly: it says true.
-/
namespace Go.Pf
open Go Go.Pu
def J9 (n:Int)(p:Pin):Prop:=(0<=p.1/\p.1<n)/\(0<=p.2/\p.2<=4)
instance (n:Int)(p:Pin):Decidable (J9 n p):=by unfold J9;exact inferInstance
theorem Ac8 (n:Int)(p:Pin):Fx (p,n)=some (decide (J9 n p)):=by
 unfold Fx;simp only[Co,Aa];by_cases h1:0<=p.1
 ·by_cases h2:p.1<n
  ·rw[dt h1,dt h2,cond_true,cond_true]
   congr 1
   rw[decide_eq_decide];exact⟨fun e=>⟨⟨h1,h2⟩,e⟩,fun e=>e.2⟩
  ·rw[dt h1,df h2,df (show ¬J9 n p from fun e=>h2 e.1.2)];rfl
 ·rw[df h1,df (show ¬J9 n p from fun e=>h1 e.1.1)];rfl
theorem Ac9 (n:Int)(p:Pin)(hn: -9223372036854775807<=n)(hn2:n<=9223372036854775807):In (n,p)=some (decide (J9 n p)):=by
 unfold In;simp only[B4,Aa];rw[Aj (by omega)];by_cases h1:0<=p.1/\p.1<=n - 1
 ·rw[dt h1,cond_true]
  congr 1
  rw[decide_eq_decide];exact⟨fun e=>⟨by omega,e⟩,fun e=>e.2⟩
 ·rw[df h1,df (show ¬J9 n p from fun e=>h1 (by have:=e.1;omega))];rfl
def cnP (n:Int)(c:B7):Bool:=decide ((1<=c.2.2.length/\c.2.2.length<=120)/\J9 n c.2.1) && c.2.2.all (fun p=>decide (J9 n p))
def Oj (n:Int)(cs:List B7):Bool:=decide ((0<=n/\n<=64)/\cs.length<=100) && cs.all (cnP n)
theorem Akc (n:Int)(cs:List B7):Jd (n,cs)=some (Oj n cs):=by
 unfold Jd Oj;dsimp only;rw[Co];simp only[Aa];by_cases h1:0<=n/\n<=64
 ·rw[dt h1];simp only[Bool.not_true,cond_false];by_cases h2:cs.length<=100
  ·rw[df (by omega),cond_false,dt ⟨h1,h2⟩,Bool.true_and];have key:∀k (hk:k<cs.length),(bif decide ((k:Int)<(cs.length:Int))then
   (Ak (0,((0,0),[])) cs (k:Int)).bind fun v8=>
   let v9:Int:=((v8.2.2).length:Int)
   (Bb (v9,(1,120))).bind fun v10=>
   let v11:Bool:= !v10
   bif v11 then(
    Option.map Sum.inr (
     some false))else
   (Ak (0,((0,0),[])) cs (k:Int)).bind fun v12=>
   (Fx (v12.2.1,n)).bind fun v13=>
   let v14:Bool:= !v13
   bif v14 then(
    Option.map Sum.inr (
     some false))else
   Pu.loop (fun(v15:Int)=>
    (Ak (0,((0,0),[])) cs (k:Int)).bind fun v16=>
    let v17:Int:=((v16.2.2).length:Int)
    let v18:Bool:=decide (v15<v17)
    bif v18 then(
     (Ak (0,((0,0),[])) cs (k:Int)).bind fun v19=>
     (Ak (0,0) v19.2.2 v15).bind fun v20=>
     (Fx (v20,n)).bind fun v21=>
     let v22:Bool:= !v21
     bif v22 then(
      Option.map Sum.inr (
       Option.map Sum.inr (
        some false)))else
     let v23:Int:=wrap .i64 (v15+1)
     some (.inl v23))else
    Option.map Sum.inr (
     let v19:Int:=wrap .i64 ((k:Int)+1)
     some (.inl v19))) 0 else
  Option.map Sum.inr (
   some true))=some (bif cnP n cs[k]then Sum.inl ((k+1:Nat):Int)else Sum.inr false):=by
    intro k hk;rw[dt (by omega),cond_true,Ar hk];simp only[Aa];rw[Co,Ac8];simp only[Aa];unfold cnP;by_cases q1:1<=(cs[k]).2.2.length/\(cs[k]).2.2.length<=120
    ·rw[dt (by omega)];simp only[Bool.not_true,cond_false];by_cases q2:J9 n (cs[k]).2.1
     ·rw[dt q2,dt ⟨q1,q2⟩];simp only[Bool.not_true,cond_false,Bool.true_and];have e:=Cl (cs[k]).2.2.length (fun j:Nat=>(j:Int)) (fun j=>if h:j<(cs[k]).2.2.length then decide (J9 n (cs[k]).2.2[j])else true) (Sum.inr false) (Sum.inl (wrap .i64 ((k:Int)+1))) (f:=fun(v15:Int)=>
    bif decide (v15<((cs[k]).2.2.length:Int))then(
     (Ak (0,0) (cs[k]).2.2 v15).bind fun v20=>
     (Fx (v20,n)).bind fun v21=>
     bif !v21 then(
      Option.map Sum.inr (
       Option.map Sum.inr (
        some false)))else
     some (.inl (wrap .i64 (v15+1))))else
    Option.map Sum.inr (
     some (.inl (wrap .i64 ((k:Int)+1))))) (fun j hj hok=>by
      rw[dif_pos hj]at hok
      try dsimp only
      rw[dt (by omega),cond_true,Ar hj];simp only[Aa];rw[Ac8,hok];simp only[Aa,Bool.not_true,cond_false];rw[Aj (by omega)];rfl) (fun j hj hok=>by
      rw[dif_pos hj]at hok
      try dsimp only
      rw[dt (by omega),cond_true,Ar hj];simp only[Aa];rw[Ac8,hok];rfl) (by
      try dsimp only
      rw[df (by omega),cond_false];rfl)
      rw[Bt (cs[k]).2.2 (fun p=>decide (J9 n p)) _ (fun j hj=>by rw[dif_pos hj])]at e;refine Eq.trans e ?_
      rw[Aj (by omega)];cases (cs[k]).2.2.all (fun p=>decide (J9 n p))<;>rfl
     ·rw[df q2,df (show ¬((1<=(cs[k]).2.2.length/\(cs[k]).2.2.length<=120)/\J9 n (cs[k]).2.1)from fun e=>q2 e.2)];rfl
    ·rw[df (show ¬((1:Int)<=((cs[k]).2.2.length:Int)/\((cs[k]).2.2.length:Int)<=120)by omega),df (show ¬((1<=(cs[k]).2.2.length/\(cs[k]).2.2.length<=120)/\J9 n (cs[k]).2.1)from fun e=>q1 e.1)];rfl
   refine Eq.trans (Cl cs.length (fun k:Nat=>(k:Int)) (fun k=>if h:k<cs.length then cnP n cs[k]else true) false true (fun k hk hok=> ?_) (fun k hk hok=> ?_) ?_) ?_
   ·rw[dif_pos hk]at hok;have:=key k hk;rw[hok]at this;exact this
   ·rw[dif_pos hk]at hok;have:=key k hk;rw[hok]at this;exact this
   ·rw[df (by omega),cond_false];rfl
   ·rw[Bt cs (cnP n) _ (fun k hk=>by rw[dif_pos hk])];cases cs.all (cnP n)<;>rfl
  ·rw[dt (by omega),cond_true,df (fun e=>h2 e.2)];rfl
 ·rw[df h1];simp only[Bool.not_false,cond_true];rw[df (fun e=>h1 e.1)];rfl
theorem Akd (n:Int)(cs:List B7):Je (n,cs)=some (Oj n cs):=by
 unfold Je Oj;dsimp only;rw[B4];simp only[Aa];by_cases h1:0<=n/\n<=64
 ·rw[dt h1];simp only[Bool.not_true,cond_false];by_cases h2:cs.length<=100
  ·rw[df (by omega),cond_false,dt ⟨h1,h2⟩,Bool.true_and];have key:∀k (hk:k<cs.length),(bif decide ((k:Int)<(cs.length:Int))then
   (Ak (0,((0,0),[])) cs (k:Int)).bind fun v8=>
   let v9:Int:=((v8.2.2).length:Int)
   (A1 (v9,(1,120))).bind fun v10=>
   let v11:Bool:= !v10
   bif v11 then(
    Option.map Sum.inr (
     some false))else
   (In (n,v8.2.1)).bind fun v12=>
   let v13:Bool:= !v12
   bif v13 then(
    Option.map Sum.inr (
     some false))else
   let v14:Int:=((v8.2.2).length:Int)
   Pu.loop (fun(v15:Int)=>
    let v16:Bool:=decide (v15<v14)
    bif v16 then(
     (Ak (0,0) v8.2.2 v15).bind fun v17=>
     (In (n,v17)).bind fun v18=>
     let v19:Bool:= !v18
     bif v19 then(
      Option.map Sum.inr (
       Option.map Sum.inr (
        some false)))else
     let v20:Int:=wrap .i64 (v15+1)
     some (.inl v20))else
    Option.map Sum.inr (
     let v17:Int:=wrap .i64 ((k:Int)+1)
     some (.inl v17))) 0 else
  Option.map Sum.inr (
   some true))=some (bif cnP n cs[k]then Sum.inl ((k+1:Nat):Int)else Sum.inr false):=by
    intro k hk;rw[dt (by omega),cond_true,Ar hk];simp only[Aa];rw[B4,Ac9 _ _ (by omega) (by omega)];simp only[Aa];unfold cnP;by_cases q1:1<=(cs[k]).2.2.length/\(cs[k]).2.2.length<=120
    ·rw[dt (by omega)];simp only[Bool.not_true,cond_false];by_cases q2:J9 n (cs[k]).2.1
     ·rw[dt q2,dt ⟨q1,q2⟩];simp only[Bool.not_true,cond_false,Bool.true_and];refine Eq.trans (Cl (cs[k]).2.2.length (fun j:Nat=>(j:Int)) (fun j=>if h:j<(cs[k]).2.2.length then decide (J9 n (cs[k]).2.2[j])else true) (Sum.inr false) (Sum.inl (wrap .i64 ((k:Int)+1))) (fun j hj hok=> ?_) (fun j hj hok=> ?_) ?_) ?_
      ·rw[dif_pos hj]at hok
       try dsimp only
       rw[dt (by omega),cond_true,Ar hj];simp only[Aa];rw[Ac9 _ _ (by omega) (by omega),hok];simp only[Aa,Bool.not_true,cond_false];rw[Aj (by omega)];rfl
      ·rw[dif_pos hj]at hok
       try dsimp only
       rw[dt (by omega),cond_true,Ar hj];simp only[Aa];rw[Ac9 _ _ (by omega) (by omega),hok];rfl
      ·try dsimp only
       rw[df (by omega),cond_false];rfl
      ·rw[Bt (cs[k]).2.2 (fun p=>decide (J9 n p)) _ (fun j hj=>by rw[dif_pos hj]),Aj (by omega)];cases (cs[k]).2.2.all (fun p=>decide (J9 n p))<;>rfl
     ·rw[df q2,df (show ¬((1<=(cs[k]).2.2.length/\(cs[k]).2.2.length<=120)/\J9 n (cs[k]).2.1)from fun e=>q2 e.2)];rfl
    ·rw[df (show ¬((1:Int)<=((cs[k]).2.2.length:Int)/\((cs[k]).2.2.length:Int)<=120)by omega),df (show ¬((1<=(cs[k]).2.2.length/\(cs[k]).2.2.length<=120)/\J9 n (cs[k]).2.1)from fun e=>q1 e.1)];rfl
   refine Eq.trans (Cl cs.length (fun k:Nat=>(k:Int)) (fun k=>if h:k<cs.length then cnP n cs[k]else true) false true (fun k hk hok=> ?_) (fun k hk hok=> ?_) ?_) ?_
   ·rw[dif_pos hk]at hok;have:=key k hk;rw[hok]at this;exact this
   ·rw[dif_pos hk]at hok;have:=key k hk;rw[hok]at this;exact this
   ·rw[df (by omega),cond_false];rfl
   ·rw[Bt cs (cnP n) _ (fun k hk=>by rw[dif_pos hk])];cases cs.all (cnP n)<;>rfl
  ·rw[dt (by omega),cond_true,df (fun e=>h2 e.2)];rfl
 ·rw[df h1];simp only[Bool.not_false,cond_true];rw[df (fun e=>h1 e.1)];rfl
end Go.Pf
/-
  Own work. The law of a placement's cost, plainly: it says true.
-/
namespace Go.Pf
open Go Go.Pu
theorem Ats {n:Int}{cs:List B7}(h:Oj n cs=true):(0<=n/\n<=64)/\cs.length<=100:=by
 unfold Oj at h;rw[Ai]at h;exact of_decide_eq_true h.1
theorem Att {n:Int}{cs:List B7}(h:Oj n cs=true){c:B7}(hc:c∈cs):(1<=c.2.2.length/\c.2.2.length<=120)/\J9 n c.2.1/\∀p∈c.2.2,J9 n p:=by
 unfold Oj at h;rw[Ai,List.all_eq_true]at h
 have:=h.2 c hc;unfold cnP at this;rw[Ai,List.all_eq_true]at this;have h1:=of_decide_eq_true this.1;exact⟨h1.1,h1.2,fun p hp=>of_decide_eq_true (this.2 p hp)⟩
end Go.Pf
/-
  Own work. Draws, plainly: a drawn device, blocks, connections and a legal placement.
-/
namespace Go.Pf
open Go Go.Pu
set_option linter.unusedVariables false
theorem Atu {n:Net}{b:Blk}(hn:Du n=true)(h:Q9 n b=true):(W2 n b).length<=if b.1=3 then 5 else 4:=by
 obtain⟨hln,_,hs,_⟩:=Cx hn;have hi:=Yi h;unfold Q9 at h;rw[Ai]at h;have h2:=h.2;unfold Aqw at h2;unfold Gw at hi;unfold W2;by_cases k0:b.1=0
 ·rw[if_pos k0];simp
 rw[if_neg k0];by_cases k1:b.1=1
 ·rw[if_pos k1];simp;split<;>omega
 rw[if_neg k1];by_cases k2:b.1=2
 ·rw[if_pos k2,if_neg (by omega)];rw[if_neg k0,if_neg k1,if_pos k2]at hi;have hi:=of_decide_eq_true hi;rw[if_neg (by omega)]at h2;have h3:=(of_decide_eq_true h2).2 k2;have h4:=(hs b.2.1.toNat (by omega)).1;rcases h4 with q | q
  ·omega
  ·omega
 rw[if_neg k2];by_cases k3:b.1=3
 ·rw[if_pos k3]at h2 ⊢;exact(of_decide_eq_true h2).2.2
 ·rw[if_neg k0,if_neg k1,if_neg k2,if_neg k3]at hi;cases hi
theorem Atv {n:Net}{bs:List Blk}{p:Nat}(hp:p<bs.length):gAt (psA n bs bs.length) p=W2 n (Fs bs p):=by
 have e:Fs bs p=bs[p]:=by unfold Fs;rw[List.getD,List.getElem?_eq_getElem hp];rfl
 unfold gAt psA;rw[List.take_length,List.getD,List.getElem?_map,List.getElem?_eq_getElem hp,e];rfl
theorem Axm {n:Net}{bs:List Blk}(h:Ug n bs=true)(x:Int):∀k,k<=bs.length->(skA x (psA n bs bs.length) k).length<=4*k+((bs.take k).map (·.1)).count 3
 | 0,_=>by simp[skA]
 | k+1,hk=>by
  have ih:=Axm h x k (by omega);obtain⟨hn,_,hb⟩:=Mc h;have h1:=Ahc x (k:Int) (gAt (psA n bs bs.length) k) (skA x (psA n bs bs.length) k) (gAt (psA n bs bs.length) k).length;have h2:=Atu hn (hb k (by omega));show(mtA x (k:Int) (gAt (psA n bs bs.length) k) (skA x (psA n bs bs.length) k) (gAt (psA n bs bs.length) k).length).length<=_;rw[Atv (show k<bs.length by omega)]at h1 ⊢;have e:Fs bs k=bs[k]:=by unfold Fs;rw[List.getD,List.getElem?_eq_getElem (by omega)];rfl
  rw[Bu bs k (by omega),List.map_append,List.count_append];rw[e]at h1 h2 ⊢;have e3:List.count 3 (List.map (fun b:Blk=>b.1) [bs[k]])=if bs[k].1=3 then 1 else 0:=by
   by_cases c:bs[k].1=3
   ·simp[c]
   ·rw[if_neg c];simp[c]
  rw[e3];by_cases c:bs[k].1=3
  ·rw[if_pos c]at h2 ⊢;omega
  ·rw[if_neg c]at h2 ⊢;omega
theorem Atw {x p:Int}{xs:List Int}{acc:List Pin}{Q:Pin->Prop}(ha:∀y∈acc,Q y)(hq:∀j:Nat,j<xs.length->Q (p,(j:Int))):∀k,k<=xs.length->∀y∈mtA x p xs acc k,Q y
 | 0,_=>ha
 | k+1,hk=>by
  have ih:=Atw (x:=x) ha hq k (by omega);show ∀y∈(if Am xs k=x then mtA x p xs acc k++[(p,(k:Int))]else mtA x p xs acc k),Q y;split
  ·intro y hy;rcases List.mem_append.1 hy with q | q
   ·exact ih y q
   ·rw[List.mem_singleton]at q;rw[q];exact hq k (by omega)
  ·exact ih
theorem Atx {n:Net}{bs:List Blk}(h:Ug n bs=true)(x:Int):∀k,k<=bs.length->∀y∈skA x (psA n bs bs.length) k,J9 (bs.length:Int) y
 | 0,_=>fun y hy=>by cases hy
 | k+1,hk=>by
  obtain⟨hn,_,hb⟩:=Mc h;have h2:=Atu hn (hb k (by omega));refine Atw (Atx h x k (by omega)) (fun j hj=> ?_) _ (Nat.le_refl _);rw[Atv (show k<bs.length by omega)]at hj;have:(if(Fs bs k).1=3 then 5 else 4)<=5:=by split<;>omega
  exact⟨⟨by simp only;omega,by simp only;omega⟩,by simp only;omega,by simp only;omega⟩
theorem Aou {PS:List (List Int)}{b:Int}{os:List Int}{acc:List B7}{Q:B7->Prop}(ha:∀c∈acc,Q c)(hq:∀j,j<os.length->0<(skA (Am os j) PS PS.length).length->Q (Am os j,((b,(j:Int)),skA (Am os j) PS PS.length))):∀k,k<=os.length->∀c∈cnA PS b os acc k,Q c
 | 0,_=>ha
 | k+1,hk=>by
  have ih:=Aou (PS:=PS) (b:=b) ha hq k (by omega);show ∀c∈(if 0<((skA (Am os k) PS PS.length).length:Int)then cnA PS b os acc k++[(Am os k,((b,(k:Int)),skA (Am os k) PS PS.length))]else cnA PS b os acc k),Q c;split
  ·intro c hc;rcases List.mem_append.1 hc with q | q
   ·exact ih c q
   ·rw[List.mem_singleton]at q;rw[q];exact hq k (by omega) (by omega)
  ·exact ih
theorem Aov {n:Net}{bs:List Blk}{PS:List (List Int)}{Q:B7->Prop}(hq:∀k j,k<bs.length->j<(Qr n (Fs bs k)).length->0<(skA (Am (Qr n (Fs bs k)) j) PS PS.length).length->Q (Am (Qr n (Fs bs k)) j,(((k:Int),(j:Int)),skA (Am (Qr n (Fs bs k)) j) PS PS.length))):∀k,k<=bs.length->∀c∈ctA n bs PS k,Q c
 | 0,_=>fun c hc=>by cases hc
 | k+1,hk=>Aou (Aov hq k (by omega)) (fun j hj=>hq k j (by omega) hj) _ (Nat.le_refl _)
theorem Ams {n:Net}{bs:List Blk}(hl:bs.length<=25)(h3:(bs.map (·.1)).count 3<=20):Oj (bs.length:Int) (Ahd n bs)=true:=by
 unfold Ahd;split
 rotate_left
 ·unfold Oj;rw[dt ⟨⟨by omega,by omega⟩,by simp⟩];rfl
 rename_i h;have h1:=Aor h (psA n bs bs.length) bs.length (Nat.le_refl _);unfold Oj;rw[dt ⟨⟨by omega,by omega⟩,by omega⟩,Bool.true_and,List.all_eq_true];refine Aov (fun k j hk hj hpos=> ?_) _ (Nat.le_refl _);have hw:=Axm h (Am (Qr n (Fs bs k)) j) bs.length (Nat.le_refl _);have hin:=Atx h (Am (Qr n (Fs bs k)) j) bs.length (Nat.le_refl _);rw[List.take_length]at hw;rw[Aaa n bs (Nat.le_refl _)]at hpos ⊢;have ho:=Acz ((Mc h).2.2 k hk);unfold cnP;rw[dt ⟨⟨by simp only;omega,by simp only;omega⟩,⟨by simp only;omega,by simp only;omega⟩,by simp only;omega,by simp only;omega⟩,Bool.true_and,List.all_eq_true];exact fun p hp=>decide_eq_true (hin p hp)
theorem Ada {b:List Int}{c:Cur}(hb:M2 b)(hc:B5 b c):Tot (Ha (b,c)) (fun r=>DOk r.1/\B5 b r.2):=by
 unfold Ha;dsimp only;refine Tot.below hb hc fun x1 c1 k1 _ q1=> ?_
 have q1:=q1 (by omega);rw[Aj (z:=3+x1) (by omega)];refine Tot.below hb k1 fun x2 c2 k2 _ q2=> ?_
 have q2:=q2 (by omega);rw[Aj (z:=3+x2) (by omega)];refine Tot.below hb k2 fun x3 c3 k3 _ q3=> ?_
 have q3:=q3 (by omega);rw[Aj (z:=1+x3) (by omega)];refine Tot.once hb k3 fun x4 c4 k4=> ?_
 dsimp only;refine Tot.ite (fun _=> ?_) (fun _=>Tot.ret ⟨⟨by simp only;omega,by simp only;omega,by simp only;omega,.inl rfl⟩,k4⟩);rw[Aj (z:=3+x1 - 2) (by omega)];refine Tot.below hb k4 fun x5 c5 k5 _ q5=> ?_
 have q5:=q5 (by omega);rw[Aj (z:=1+x5) (by omega)];exact Tot.ret ⟨⟨by simp only;omega,by simp only;omega,by simp only;omega,.inr (by simp only;omega)⟩,k5⟩
def Aty (d:Dev):Prop:=(d.1=4\/d.1=5)/\(d.2.1=4\/d.2.1=5)/\(2<=d.2.2.1/\d.2.2.1<=4)/\d.2.2.2=1
theorem Aty.ok {d:Dev}(h:Aty d):DOk d:=by
 obtain⟨h1,h2,h3,h4⟩:=h;exact⟨by omega,by omega,by omega,.inr (by omega)⟩
theorem Aow {d:Dev}(h:Aty d):(Fd d 1).length<=20:=by
 obtain⟨W,H,T,R⟩:=d;obtain⟨h1,h2,h3,h4⟩:=h;simp only at h1 h2 h3 h4;have h5:T=2\/T=3\/T=4:=by omega
 subst h4;rcases h1 with rfl | rfl<;>rcases h2 with rfl | rfl<;>rcases h5 with rfl | rfl | rfl<;>decide+kernel
theorem Azr {d:Dev}(h:DOk d):Fit d [0,1]:=fun k=>by
 have e:([0,1]:List Int).map bt=[0,0]:=by simp[bt]
 rw[e];have hm:9<=d.1*d.2.1:=Int.le_trans (by decide) (Int.mul_le_mul h.1.1 h.2.1.1 (by omega) (by have:=h.1.1;omega));by_cases hk:k=0
 ·subst hk;have hw:=h.1;have t0:(0:Int)∈Fd d 0:=by
   unfold Fd;rw[if_pos h,Nz]
   exact⟨by omega,by unfold tkp;rw[if_pos];left;simp⟩
  have t1:(1:Int)∈Fd d 0:=by
   unfold Fd;rw[if_pos h,Nz]
   refine⟨by omega,?_⟩;unfold tkp;rw[if_pos]
   right;left
   exact Int.ediv_eq_zero_of_lt (by omega) (by omega)
  have:=Ph [0,1] (Fd d 0) (by decide) (fun x hx=>by
   rcases List.mem_cons.1 hx with q | q
   ·rw[q];exact t0
   ·rw[List.mem_singleton]at q;rw[q];exact t1)
  simpa using this
 ·have:List.count k ([0,0]:List Int)=0:=by
   rw[List.count_eq_zero];simp[hk]
  omega
theorem Aq2:M0 ()=some (2,([(0,(1,[9]))],([(2,6)],[8,7]))):=rfl
theorem Amt:NB (2,([(0,(1,[9]))],([(2,6)],[8,7]))):=by
 refine⟨by simp,fun s hs=> ?_,by simp,fun s hs=> ?_,by simp,fun s hs=> ?_⟩
 ·simp only[List.mem_singleton]at hs;subst hs
  exact⟨by simp,fun x hx=>by simp only[List.mem_singleton]at hx;subst hx;unfold I64;omega⟩
 ·simp only[List.mem_singleton]at hs;subst hs
  unfold I64;simp only;omega
 ·simp only[List.mem_cons,List.not_mem_nil,or_false]at hs;rcases hs with rfl | rfl<;>(unfold I64;omega)
def Azs (b:List Int)(r:Dev×(Net×(List Blk×Cur))):Prop:=Aty r.1/\M3 r.2.1/\r.2.2.1.length<=64/\B2 r.2.2.1/\Fit r.1 (r.2.2.1.map (·.1))/\B5 b r.2.2.2
theorem Aox (d:Dev):Fit d []:=fun k=>by simp
theorem Atz {b:List Int}{c:Cur}(hb:M2 b)(hc:B5 b c):Tot (Lv (b,c)) (Azs b):=by
 unfold Lv;dsimp only;refine Tot.below hb hc fun x1 c1 k1 _ q1=> ?_
 have q1:=q1 (by omega);rw[Aj (z:=4+x1) (by omega)];refine Tot.below hb k1 fun x2 c2 k2 _ q2=> ?_
 have q2:=q2 (by omega);rw[Aj (z:=4+x2) (by omega)];refine Tot.below hb k2 fun x3 c3 k3 _ q3=> ?_
 have q3:=q3 (by omega);rw[Aj (z:=2+x3) (by omega)];have hd:Aty (4+x1,(4+x2,(2+x3,1))):=⟨by simp only;omega,by simp only;omega,by simp only;omega,rfl⟩;generalize 4+x1=W at*;generalize 4+x2=H at*;generalize 2+x3=T at*;refine Tot.lp (fun s=>(0<=s.1/\s.1<=4)/\B5 b s.2) (fun s=>(4 - s.1).toNat) ⟨⟨by simp only;omega,by simp only;omega⟩,k3⟩ (fun s hs=> ?_);obtain⟨i,cu⟩:=s;obtain⟨⟨i0,i1⟩,hcu⟩:=hs;simp only at i0 i1 hcu;dsimp only;refine Tot.dite (fun h1=> ?_) (fun h1=>Tot.exit (Tot.ret ⟨hd,Aj2.netB,by simp,(fun x hx=>by cases hx),Aox _,hcu⟩));refine Tot.bind (Aqp hb hcu (by omega) (by omega) (by omega)) fun s9 h9=> ?_
 obtain⟨h9n,h9c⟩:=h9;refine Tot.bind (Asx h9n) fun n10 h10=> ?_
 refine Tot.join (A:=NB) ?_ fun n hn=> ?_
 ·refine Tot.dite (fun _=> ?_) (fun _=>Tot.next h10);rw[Aq2];exact Tot.next Amt
 refine Tot.join (A:=fun v=>LB (v.2.2.2,(v.1,(v.2.1,v.2.2.1)))) ?_ fun v12 h12=> ?_
 ·refine Tot.bind (Ag9 hn) fun m hm=> ?_
  refine Tot.bind (Amf hn hm.2) fun l hl=> ?_
  exact Tot.next hl
 have hN:=h12.netB;generalize ((v12.2.2.2,(v12.1,(v12.2.1,v12.2.2.1))):Net)=N at*;obtain⟨o,_,he,ho,h2⟩:=Atq N hN;refine Tot.bindEq he ?_
 refine Tot.join (A:=fun v=>B5 b v.2/\(v.1=true->Fit (W,(H,(T,1))) (o.1.map (·.1)))) ?_ fun v14 h14=> ?_
 ·refine Tot.ite (fun _=> ?_) (fun _=>Tot.next ⟨h9c,fun e=>by cases e⟩);refine Tot.bindEq (Afo (by omega)) ?_
  refine Tot.bind (Qt hb h9c hd.ok (by rw[Ae];omega)) fun r hr=> ?_
  obtain⟨⟨hr1,_⟩,hr2⟩:=hr;refine Tot.next ⟨hr2,fun e=> ?_⟩;have e:=of_decide_eq_true e;rcases hr1 with q | q
  ·rw[q]at e;have:o.1=[]:=List.length_eq_zero_iff.1 (by simp at e;omega);rw[this];exact Aox _
  ·exact q.fit hd.ok
 obtain⟨hc14,hf14⟩:=h14;refine Tot.ite (fun e=>Tot.exit (Tot.ret ⟨hd,hN,ho,h2,hf14 e,hc14⟩)) (fun _=> ?_);rw[Aj (z:=i+1) (by omega)];exact Tot.next ⟨⟨⟨by simp only;omega,by simp only;omega⟩,hc14⟩,by simp only;omega⟩
structure PD (d:Dev)(ks:List Int)(cs:List B7)(ps:List Int):Prop where
 dev:DOk d
 pl:Pl d ks ps
 len:ks.length<=64
 cns:Oj (ks.length:Int) cs=true
theorem PD.place {d:Dev}{ks:List Int}{cs:List B7}{ps:List Int}(h:PD d ks cs ps):Al9 d ks ps=true:=h.pl.place h.dev h.len
theorem Afp (ks:List Int):ks.count 3<=(ks.map bt).count 1:=by
 induction ks with
 | nil=>simp
 | cons k ks ih=>
  rw[List.map_cons,List.count_cons,List.count_cons];by_cases h:k=3
  ·subst h;have:bt 3=1:=by simp[bt]
   simp[this,ih]
  ·simp[h];omega
theorem Aq3 {b:List Int}{c:Cur}(hb:M2 b)(hc:B5 b c):Tot (Kk (b,c)) (fun r=>PD r.1 r.2.1 r.2.2.1 r.2.2.2.1/\B5 b r.2.2.2.2):=by
 unfold Kk;dsimp only;refine Tot.once hb hc fun x1 c1 k1=> ?_
 dsimp only;refine Tot.ite (fun _=> ?_) (fun _=> ?_)
 ·refine Tot.bind (Atz hb k1) fun v2 h2=> ?_
  obtain⟨hd,hN,hl,hB,hf,hcu⟩:=h2;refine Tot.bindEq (Afo (by omega)) ?_
  refine Tot.bindEq (Aml _ _ hN ⟨by omega,fun x hx=>by have:=hB x hx;unfold BkB;omega⟩) ?_
  refine Tot.bind (Qt hb hcu hd.ok (by rw[Ae];omega)) fun r hr=> ?_
  obtain⟨⟨_,hr1⟩,hr2⟩:=hr;have hp:=hr1 hf;have h36:=hp.le36 hd.ok;have hlen:=hp.len;rw[Ae]at hlen;have hA:v2.1.1*v2.1.2.1<=5*5:=Int.mul_le_mul (by rcases hd.1 with q | q<;>omega) (by rcases hd.2.1 with q | q<;>omega) (by rcases hd.2.1 with q | q<;>omega) (by omega);have h3:=Afp (v2.2.2.1.map (·.1));have hf1:=hf 1;have h20:=Aow hd;refine Tot.ret ⟨⟨hd.ok,hp,by rw[Ae];omega,?_⟩,hr2⟩;rw[Ae];exact Ams (by omega) (Nat.le_trans (Afp _) (Nat.le_trans (hf 1) (Aow hd)))
 refine Tot.bind (Ada hb k1) fun v2 h2=> ?_
 obtain⟨hd,hc2⟩:=h2;refine Tot.below hb hc2 fun x3 c3 k3 _ q3=> ?_
 have q3:=q3 (by omega);rw[Aj (z:=1+x3) (by omega)];refine Tot.lp (fun s=>(0<=s.1/\s.1+(s.2.2.2.length:Int)=1+x3)/\B5 b (s.2.1,s.2.2.1)) (fun s=>s.1.toNat) ⟨⟨by simp only;omega,by simp⟩,k3⟩ (fun s hs=> ?_);obtain⟨i,p1,p2,ks⟩:=s;obtain⟨⟨i0,i1⟩,hcu⟩:=hs;simp only at i0 i1 hcu;dsimp only;refine Tot.dite (fun h1=> ?_) (fun h1=>Tot.exit ?_)
 ·refine Tot.pick hb hcu (by simp) fun x c' hc' _=> ?_
  refine Tot.app (by simp only[Ab,Ac];omega) (by omega) ?_
  rw[Aj (z:=i - 1) (by omega)];exact Tot.next ⟨⟨⟨by simp only;omega,by simp only[Ad,Ab,Ac];omega⟩,hc'⟩,by simp only;omega⟩
 refine Tot.join (A:=fun ks' :List Int=>1<=ks'.length/\ks'.length<=5) ?_ fun ks1 hk1=> ?_
 ·refine Tot.bindEq (Acu _ _) ?_
  exact Tot.dite (fun _=>Tot.next ⟨by simp,by simp⟩) (fun _=>Tot.next ⟨by omega,by omega⟩)
 refine Tot.bind (Qt hb hcu hd (by omega)) fun r hr=> ?_
 obtain⟨⟨hr1,_⟩,hr2⟩:=hr;refine Tot.join (A:=fun v=>B5 b (v.1,v.2.1)/\Pl v2.1 v.2.2.1 v.2.2.2/\1<=v.2.2.1.length/\v.2.2.1.length<=5) ?_ fun v9 h9=> ?_
 ·refine Tot.dite (fun _=> ?_) (fun h0=>Tot.next ⟨hr2,?_,hk1⟩)
  ·refine Tot.bind (Qt hb hr2 hd (by simp)) fun r2 hq2=> ?_
   obtain⟨⟨_,hq⟩,hq3⟩:=hq2;exact Tot.next ⟨hq3,hq (Azr hd),by simp,by simp⟩
  ·rcases hr1 with q | q
   ·rw[q]at h0;simp at h0
   ·exact q
 obtain⟨w1,w2,kk,ps⟩:=v9;obtain⟨hc9,hpl,l1,l5⟩:=h9;simp only at hc9 hpl l1 l5;dsimp only;refine Tot.below hb hc9 fun x10 c10 k10 _ q10=> ?_
 have q10:=q10 (by omega);have pin:∀{x y:Int},0<=x->x<(kk.length:Int)->0<=y->y<5->J9 (kk.length:Int) (x,y):=fun a b c e=>⟨⟨a,b⟩,c,by simp only;omega⟩
 refine Tot.lp (fun s=>(0<=s.1/\s.1+(s.2.2.2.length:Int)<=5)/\B5 b (s.2.1,s.2.2.1)/\∀q∈s.2.2.2,cnP (kk.length:Int) q=true) (fun s=>s.1.toNat) ⟨⟨by simp only;omega,by simp;omega⟩,k10,fun q hq=>by cases hq⟩ (fun s hs=> ?_);obtain⟨i2,p3,p4,cs⟩:=s;obtain⟨⟨i20,i21⟩,hcu2,hcs⟩:=hs;simp only at i20 i21 hcu2 hcs;dsimp only;refine Tot.dite (fun h2=> ?_) (fun h2=>Tot.exit (Tot.ret ⟨⟨hd,hpl,by simp only;omega,?_⟩,hcu2⟩))
 rotate_left
 ·show Oj (kk.length:Int) cs=true;unfold Oj;rw[dt ⟨⟨by omega,by omega⟩,by omega⟩,Bool.true_and,List.all_eq_true];exact hcs
 refine Tot.below hb hcu2 fun x14 c14 k14 _ q14=> ?_
 have q14:=q14 (by omega);refine Tot.below hb k14 fun x15 c15 k15 _ q15=> ?_
 have q15:=q15 (by omega);refine Tot.below hb k15 fun x16 c16 k16 _ q16=> ?_
 have q16:=q16 (by omega);refine Tot.lp (fun s=>(-1<=s.1/\s.1+(s.2.2.2.length:Int)=x16)/\B5 b (s.2.1,s.2.2.1)/\∀q∈s.2.2.2,J9 (kk.length:Int) q) (fun s=>(s.1+1).toNat) ⟨⟨by simp only;omega,by simp⟩,k16,fun q hq=>by cases hq⟩ (fun s hs=> ?_);obtain⟨i3,p5,p6,sk⟩:=s;obtain⟨⟨i30,i31⟩,hcu3,hsk⟩:=hs;simp only at i30 i31 hcu3 hsk;dsimp only;refine Tot.dite (fun h3=> ?_) (fun h3=>Tot.exit ?_)
 ·refine Tot.below hb hcu3 fun x20 c20 k20 _ q20=> ?_
  have q20:=q20 (by omega);refine Tot.below hb k20 fun x21 c21 k21 _ q21=> ?_
  have q21:=q21 (by omega);refine Tot.app (by simp only[Ab,Ac];omega) (by omega) ?_
  rw[Aj (z:=i3 - 1) (by omega)];refine Tot.next ⟨⟨⟨by simp only;omega,by simp only[Ad,Ab,Ac];omega⟩,k21,fun q hq=> ?_⟩,by simp only;omega⟩;rcases List.mem_append.1 hq with e | e
  ·exact hsk q e
  ·rw[List.mem_singleton]at e;rw[e]
   exact pin q20.1 q20.2 q21.1 q21.2
 ·refine Tot.app (by simp only[Ab,Ac];omega) (by omega) ?_
  rw[Aj (z:=i2 - 1) (by omega)];refine Tot.next ⟨⟨⟨by simp only;omega,by simp only[Ad,Ab,Ac];omega⟩,hcu3,fun q hq=> ?_⟩,by simp only;omega⟩;rcases List.mem_append.1 hq with e | e
  ·exact hcs q e
  ·rw[List.mem_singleton]at e;rw[e]
   unfold cnP;rw[dt ⟨⟨by simp only;omega,by simp only;omega⟩,pin q14.1 q14.2 q15.1 (by omega)⟩,Bool.true_and,List.all_eq_true];exact fun p hp=>decide_eq_true (hsk p hp)
theorem PD.pin {d:Dev}{ks:List Int}{cs:List B7}{ps:List Int}(h:PD d ks cs ps){p:Pin}(hp:J9 (ks.length:Int) p):Atr d ps p:=by
 have hl:=h.pl.len;have h1:=hp.1;refine⟨by omega,h.pl.ge _ ?_⟩;unfold psV;exact Ab2 (by omega)
theorem PD.tile {d:Dev}{ks:List Int}{cs:List B7}{ps:List Int}(h:PD d ks cs ps):∀p∈ps,0<=p/\p<=36:=fun p hp=>by
 have h1:=Amr (h.pl.ge p hp);have hm:=By h.dev.1 h.dev.2.1;omega
end Go.Pf
/-
  Own work. Cheapest distances: the reference's passes and the program's queue both find them.
-/
namespace Go.Pf
open Go Go.Pu
set_option linter.unusedVariables false
theorem L0 {G:List (List Int)}{v:Nat}(h:v<G.length):Ak ([]:List Int) G (v:Int)=some (gAt G v):=by
 rw[Ar h];unfold gAt
 rw[List.getD,List.getElem?_eq_getElem h];rfl
theorem Adb {D:List Int}{ss:List Int}{v:Nat}{x:Int}(h:St0 ss D)(hv:v<D.length)(hx:0<=x)(hlt:Am D v<0\/x<Am D v):St0 ss (D.set v x):=by
 intro s hs;rw[C6 _ _ hv];have:=h s hs;split
 ·rename_i e;rw[e]at this;omega
 ·exact this
theorem Aq4 {N:Nat}{G:List (List Int)}{cs ss:List Int}(hG:Wz N G)(hc:Zm N cs)(hs:∀s∈ss,0<=s/\s<(N:Int))(hsl:ss.length<=1048576):∃D,Gu (G,(cs,ss))=some D/\M8 N G cs ss D:=by
 have hN:=hG.2.1;have hGl:=hG.1;unfold Gu;refine Aco N (fun k=>((k:Int),List.replicate k (-1))) _ (fun k hk=> ?_) ?_
 ·try dsimp only
  rw[dt (show(k:Int)<(G.length:Int)by omega),cond_true,gapp_ok (by simp;omega)];simp only[Aa];rw[Aj (by omega),<-List.replicate_succ'];rfl
 try dsimp only
 rw[df (show ¬(N:Int)<(G.length:Int)by omega),cond_false];refine Ata ?_
 refine B6 (fun s:Int×List Int=>(0<=s.1/\s.1<=ss.length)/\Q7 N G cs ss s.2/\∀j:Nat,(j:Int)<s.1->Am s.2 (Am ss j).toNat=0) _ (fun s=>(ss.length - s.1).toNat) (fun s hI=> ?_) (0,List.replicate N (-1)) ⟨⟨by simp,by simp⟩,Axi N G cs ss,fun j hj=>by simp only at hj;omega⟩;obtain⟨i,D⟩:=s;obtain⟨⟨i0,i1⟩,hD,hz⟩:=hI;simp only at i0 i1 hD hz;have hDl:=hD.1
 try dsimp only
 by_cases hi:i<(ss.length:Int)
 ·left
  obtain⟨n,rfl⟩:∃n:Nat,i=(n:Int):=⟨i.toNat,by omega⟩;have hn:n<ss.length:=by omega
  have hmem:Am ss n∈ss:=by rw[<-Dm hn];exact List.getElem_mem hn
  have hsn:=hs _ hmem;obtain⟨v,hv⟩:∃v:Nat,Am ss n=(v:Int):=⟨(Am ss n).toNat,by omega⟩;rw[dt hi,cond_true,A0 hn];simp only[Aa];rw[hv,As (by omega),Ar (show v<D.length by omega)];simp only[Aa];rw[B8,Aj (z:=(n:Int)+1) (by omega)];refine⟨_,rfl,⟨⟨by simp only;omega,by simp only;omega⟩,(Ajv hG hD (by omega) (by rw[<-hv];exact hmem)).1,fun j hj=> ?_⟩,by simp only;omega⟩;simp only at hj ⊢;rw[C6 _ _ (by omega)];split
  ·rfl
  ·rename_i hne;by_cases e:j=n
   ·subst e;rw[hv]at hne;exact absurd (Int.toNat_natCast v) hne
   ·exact hz j (by omega)
 ·right
  rw[df hi,cond_false];refine Ata ?_
  have h0:St0 ss D:=by
   intro s hsm;obtain⟨k,hk,e⟩:=Ib hsm;rw[<-e];exact hz k (by omega)
  clear hz
  refine B6 (fun s:Bool×List Int=>Q7 N G cs ss s.2/\St0 ss s.2/\(s.1=false->∀u v:Nat,u<N->v<N->(u:Int)∈gAt G v->0<=Am s.2 u->Sat cs s.2 u v)) _ (fun s=>2*pot s.2+(if s.1=true then 1 else 0)) (fun s hI=> ?_) (true,D) ⟨hD,h0,fun e=>by simp at e⟩
  clear hD h0 hDl D
  obtain⟨fl,D⟩:=s;obtain⟨hD,h0,hsat⟩:=hI;simp only at hD h0 hsat
  try dsimp only
  cases fl with
  | false=>
   right
   exact⟨D,rfl,hD,h0,hsat rfl⟩
  | true=>
   left
   rw[cond_true]
   clear hsat
   refine Acp (A:=fun s' :Bool×List Int=>(Q7 N G cs ss s'.2/\St0 ss s'.2/\(s'.1=false->∀u v:Nat,u<N->v<N->(u:Int)∈gAt G v->0<=Am s'.2 u->Sat cs s'.2 u v))/\2*pot s'.2+(if s'.1=true then 1 else 0)<2*pot D+(if true=true then 1 else 0)) ?_
   refine B6 (fun s:Bool×(Int×List Int)=>(0<=s.2.1/\s.2.1<=(N:Int))/\Q7 N G cs ss s.2.2/\St0 ss s.2.2/\(s.1=true->pot s.2.2<pot D)/\(s.1=false->s.2.2=D/\∀u v:Nat,u<N->(v:Int)<s.2.1->(u:Int)∈gAt G v->0<=Am D u->Sat cs D u v)) _ (fun s=>(N - s.2.1).toNat) (fun s hI=> ?_) (false,(0,D)) ⟨⟨by simp,by simp⟩,hD,h0,fun e=>by simp at e,fun _=>⟨rfl,fun u v hu hv=>by simp only at hv;omega⟩⟩;obtain⟨fl,i,E⟩:=s;obtain⟨⟨i0,i1⟩,hE,hE0,ht,hf⟩:=hI;simp only at i0 i1 hE hE0 ht hf
   try dsimp only
   by_cases hi:i<(G.length:Int)
   rotate_left
   ·right
    rw[df hi,cond_false];refine⟨_,rfl,_,rfl,⟨hE,hE0,fun e=> ?_⟩,?_⟩
    ·obtain⟨e1,e2⟩:=hf e;intro u v hu hv hm g0;simp only at*;rw[e1]at g0 ⊢;exact e2 u v hu (by omega) hm g0
    ·cases fl with
     | true=>have:=ht rfl;simp only;omega
     | false=>have:=(hf rfl).1;simp only;rw[this];simp
   ·left
    obtain⟨v,rfl⟩:∃v:Nat,i=(v:Int):=⟨i.toNat,by omega⟩;have hv:v<N:=by omega
    rw[dt hi,cond_true];refine Acp (A:=fun s' :Bool×(Int×List Int)=>((0<=s'.2.1/\s'.2.1<=(N:Int))/\Q7 N G cs ss s'.2.2/\St0 ss s'.2.2/\(s'.1=true->pot s'.2.2<pot D)/\(s'.1=false->s'.2.2=D/\∀u v:Nat,u<N->(v:Int)<s'.2.1->(u:Int)∈gAt G v->0<=Am D u->Sat cs D u v))/\(N - s'.2.1).toNat<(N - (v:Int)).toNat) ?_
    have hgv:=hG.2.2 v hv;refine B6 (fun s:Bool×(Int×List Int)=>(0<=s.2.1/\s.2.1<=((gAt G v).length:Int))/\Q7 N G cs ss s.2.2/\St0 ss s.2.2/\(s.1=true->pot s.2.2<pot D)/\(s.1=false->s.2.2=D/\(∀u w:Nat,u<N->(w:Int)<(v:Int)->(u:Int)∈gAt G w->0<=Am D u->Sat cs D u w)/\∀j:Nat,(j:Int)<s.2.1->0<=Am D (Am (gAt G v) j).toNat->Sat cs D (Am (gAt G v) j).toNat v)) _ (fun s=>((gAt G v).length - s.2.1).toNat) (fun s hI=> ?_) (fl,(0,E)) ⟨⟨by simp,by simp⟩,hE,hE0,ht,fun e=>⟨(hf e).1,(hf e).2,fun j hj=>by simp only at hj;omega⟩⟩
    clear ht hf hE hE0
    clear E fl
    obtain⟨fl,j,E⟩:=s;obtain⟨⟨j0,j1⟩,hE,hE0,ht,hf⟩:=hI;simp only at j0 j1 hE hE0 ht hf;have hEl:=hE.1
    try dsimp only
    rw[L0 (by omega)];simp only[Aa];by_cases hj:j<((gAt G v).length:Int)
    rotate_left
    ·right
     rw[df hj,cond_false,Aj (z:=(v:Int)+1) (by omega)];refine⟨_,rfl,_,rfl,⟨⟨by simp only;omega,by simp only;omega⟩,hE,hE0,ht,fun e=> ?_⟩,by simp only;omega⟩;obtain⟨e1,e2,e3⟩:=hf e;refine⟨e1,fun u w hu hw hm g0=> ?_⟩;simp only at hw;by_cases q:w=v
     ·subst q;obtain⟨k,hk,ek⟩:=Ib hm;have:=e3 k (by omega);rw[ek,Int.toNat_natCast]at this;exact this g0
     ·exact e2 u w hu (by omega) hm g0
    ·left
     obtain⟨n,rfl⟩:∃n:Nat,j=(n:Int):=⟨j.toNat,by omega⟩;have hn:n<(gAt G v).length:=by omega
     have hmem:Am (gAt G v) n∈gAt G v:=by rw[<-Dm hn];exact List.getElem_mem hn
     have hun:=hgv.2 _ hmem;obtain⟨u,hu⟩:∃u:Nat,Am (gAt G v) n=(u:Int):=⟨(Am (gAt G v) n).toNat,by omega⟩;rw[hu]at hmem;rw[dt hj,cond_true,A0 hn];simp only[Aa];have hbu:=hE.bound hG (v:=u) (by omega);have hbv:=hE.bound hG hv;have hcv:=hc.2 v hv;have hcl:=hc.1;rw[hu,As (by omega),A0 (show u<E.length by omega),As (show v<E.length by omega),A0 (show v<E.length by omega),A0 (show v<cs.length by omega),Aj (z:=(n:Int)+1) (by omega)];simp only[Aa];rw[Aj (z:=Am E u+Am cs v) (by omega),B8];have quiet:(0<=Am E u->Sat cs E u v)->(fl=false->E=D/\(∀u w:Nat,u<N->(w:Int)<(v:Int)->(u:Int)∈gAt G w->0<=Am D u->Sat cs D u w)/\∀j:Nat,(j:Int)<(n:Int)+1->0<=Am D (Am (gAt G v) j).toNat->Sat cs D (Am (gAt G v) j).toNat v):=by
      intro hq e;obtain⟨e1,e2,e3⟩:=hf e;refine⟨e1,e2,fun j hj g0=> ?_⟩;by_cases q:j=n
      ·subst q;rw[hu,Int.toNat_natCast]at g0 ⊢;rw[<-e1]at g0 ⊢;exact hq g0
      ·exact e3 j (by omega) g0
     by_cases g1:0<=Am E u
     rotate_left
     ·rw[df g1,cond_false];exact⟨_,rfl,⟨⟨by simp only;omega,by simp only;omega⟩,hE,hE0,ht,quiet (fun e=>absurd e g1)⟩,by simp only;omega⟩
     rw[dt g1,cond_true];have act:(Am E v<0\/Am E u+Am cs v<Am E v)->Q7 N G cs ss (E.set v (Am E u+Am cs v))/\St0 ss (E.set v (Am E u+Am cs v))/\pot (E.set v (Am E u+Am cs v))<pot D:=by
      intro hlt;have r:=Axh hG hc hE (show u<N by omega) hv hmem g1 hlt;refine⟨r.1,Adb hE0 (by omega) (by omega) hlt,?_⟩;cases fl with
      | true=>have:=ht rfl;omega
      | false=>have:=(hf rfl).1;rw[this]at r ⊢;exact r.2.1
     by_cases g2:Am E v<0
     ·rw[dt g2,cond_true];obtain⟨a1,a2,a3⟩:=act (Or.inl g2);exact⟨_,rfl,⟨⟨by simp only;omega,by simp only;omega⟩,a1,a2,fun _=>a3,fun e=>by simp at e⟩,by simp only;omega⟩
     rw[df g2,cond_false];by_cases g3:Am E u+Am cs v<Am E v
     ·rw[dt g3,cond_true];obtain⟨a1,a2,a3⟩:=act (Or.inr g3);exact⟨_,rfl,⟨⟨by simp only;omega,by simp only;omega⟩,a1,a2,fun _=>a3,fun e=>by simp at e⟩,by simp only;omega⟩
     ·rw[df g3,cond_false];exact⟨_,rfl,⟨⟨by simp only;omega,by simp only;omega⟩,hE,hE0,ht,quiet (fun _=>⟨by omega,by omega⟩)⟩,by simp only;omega⟩
end Go.Pf
/-
  Own work. Cheapest distances: the program's queue; the device's graph, both ways.
-/
namespace Go.Pf
open Go Go.Pu
set_option linter.unusedVariables false
def Uh (N:Nat)(G R:List (List Int)):Prop:=R.length=N/\∀u,u<N->(gAt R u).length<=1000000/\(∀x∈gAt R u,0<=x/\x<(N:Int))/\∀v:Nat,v<N->((v:Int)∈gAt R u↔(u:Int)∈gAt G v)
def Awg (N:Nat)(G:List (List Int))(cs ss D:List Int)(Q:List Qe)(P:Nat->Nat->Prop):Prop:=
 Q7 N G cs ss D/\St0 ss D/\Q.length+pot D<=82800001*828/\
 (∀e∈Q,(0<=e.2/\e.2<(N:Int))/\0<=Am D e.2.toNat/\Am D e.2.toNat<=e.1)/\
 (∀u v:Nat,u<N->v<N->(u:Int)∈gAt G v->0<=Am D u->Sat cs D u v\/(Am D u,(u:Int))∈Q\/P u v)
theorem Aq5 {N:Nat}{G R:List (List Int)}{cs ss:List Int}(hG:Wz N G)(hR:Uh N G R)(hc:Zm N cs)(hs:∀s∈ss,0<=s/\s<(N:Int))(hsl:ss.length<=1048576):∃D,G2 ((G,R),(cs,ss))=some D/\M8 N G cs ss D:=by
 have hN:=hG.2.1;have hGl:=hG.1;have hcl:=hc.1;unfold G2
 try dsimp only
 rw[hcl,Bz (by omega) (by omega)];simp only[Aa,List.length_replicate];have e0:((0:Int),List.replicate N (0:Int))=(fun k:Nat=>((k:Int),List.replicate k (-1)++List.replicate (N - k) (0:Int))) 0:=by simp
 rw[e0];refine Aco N (fun k=>((k:Int),List.replicate k (-1)++List.replicate (N - k) (0:Int))) _ (fun k hk=> ?_) ?_
 ·have hl:(List.replicate k (-1)++List.replicate (N - k) (0:Int)).length=N:=by simp;omega
  try dsimp only
  rw[dt (show(k:Int)<(N:Int)by omega),cond_true,hl,As hk,Ar (show k<_ by rw[hl];exact hk)];simp only[Aa];rw[Aj (by omega),B8,List.set_append_right _ _ (by simp)];have e1:k - (List.replicate k (-1:Int)).length=0:=by simp
  obtain⟨m,hm⟩:∃m,N - k=m+1:=⟨N - k - 1,by omega⟩;have e2:N - (k+1)=m:=by omega
  rw[e1,hm,List.replicate_succ,List.set_cons_zero,e2];have e3:List.replicate k (-1:Int)++ -1::List.replicate m 0=List.replicate (k+1) (-1)++List.replicate m 0:=by
   rw[List.replicate_succ'];simp
  rw[e3];rfl
 try dsimp only
 rw[df (show ¬(N:Int)<(N:Int)by omega),cond_false];have eN:List.replicate N (-1:Int)++List.replicate (N - N) (0:Int)=List.replicate N (-1):=by simp
 rw[eN];refine Ata ?_
 have hD0:=Axi N G cs ss;have hpot0:=Ayl hG hD0;refine B6 (fun s:List Qe×(Int×List Int)=>(0<=s.2.1/\s.2.1<=ss.length)/\Q7 N G cs ss s.2.2/\(∀j:Nat,(j:Int)<s.2.1->Am s.2.2 (Am ss j).toNat=0)/\s.1.length+pot s.2.2<=82800001*828/\(∀e∈s.1,(0<=e.2/\e.2<(N:Int))/\0<=Am s.2.2 e.2.toNat/\Am s.2.2 e.2.toNat<=e.1)/\(∀u:Nat,u<N->0<=Am s.2.2 u->(Am s.2.2 u,(u:Int))∈s.1)) _ (fun s=>(ss.length - s.2.1).toNat) (fun s hI=> ?_) (([]:List Qe),(0,List.replicate N (-1))) ⟨⟨by simp,by simp⟩,hD0,fun j hj=>by simp only at hj;omega,by simpa using hpot0,fun e he=>by simp at he,fun u hu h0=>by simp only at h0;rw[Sw _ _ hu]at h0;omega⟩;obtain⟨Q,i,D⟩:=s;obtain⟨⟨i0,i1⟩,hD,hz,hQ,hQe,hall⟩:=hI;simp only at i0 i1 hD hz hQ hQe hall;have hDl:=hD.1
 try dsimp only
 by_cases hi:i<(ss.length:Int)
 ·left
  obtain⟨n,rfl⟩:∃n:Nat,i=(n:Int):=⟨i.toNat,by omega⟩;have hn:n<ss.length:=by omega
  have hmem:Am ss n∈ss:=by rw[<-Dm hn];exact List.getElem_mem hn
  have hsn:=hs _ hmem;obtain⟨v,hv⟩:∃v:Nat,Am ss n=(v:Int):=⟨(Am ss n).toNat,by omega⟩;have hvN:v<N:=by omega
  rw[dt hi,cond_true,A0 hn];simp only[Aa];rw[hv,As (by omega),A0 (show v<D.length by omega)];simp only[Aa];rw[Aj (z:=(n:Int)+1) (by omega)];by_cases g:Am D v≠0
  ·rw[dt g,cond_true,B8];have st:=Ajv hG hD hvN (by rw[<-hv];exact hmem);have st3:=st.2.2 g;have bv:=hD.bound hG hvN;obtain⟨q',e1,e2⟩:=Aoh Q (0,(v:Int)) (by omega);have hql:=e2.length_eq;simp only[Ab]at hql;rw[e1];simp only[Aa];refine⟨_,rfl,⟨⟨by simp only;omega,by simp only;omega⟩,st.1,fun j hj=> ?_,by simp only;omega,fun e he=> ?_,fun u hu h0=> ?_⟩,by simp only;omega⟩
   ·simp only at hj ⊢;rw[C6 _ _ (by omega)];split
    ·rfl
    ·rename_i hne;by_cases e:j=n
     ·subst e;rw[hv]at hne;exact absurd (Int.toNat_natCast v) hne
     ·exact hz j (by omega)
   ·simp only at he ⊢;rw[C6 _ _ (by omega)];rcases List.mem_cons.1 (e2.mem_iff.1 he)with e4 | e4
    ·subst e4;refine⟨⟨by simp only;omega,by simp only;omega⟩,?_⟩;split
     ·simp
     ·rename_i hne;exact absurd (Int.toNat_natCast v) hne
    ·have:=hQe _ e4;refine⟨this.1,?_⟩;split
     ·rename_i hq;rw[hq]at this;omega
     ·exact this.2
   ·simp only at h0 ⊢;rw[C6 _ _ (by omega)]at h0 ⊢;split
    ·rename_i hq;subst hq;exact e2.mem_iff.2 (by simp)
    ·rename_i hq;rw[if_neg hq]at h0;exact e2.mem_iff.2 (List.mem_cons_of_mem _ (hall u hu h0))
  ·rw[df g,cond_false];refine⟨_,rfl,⟨⟨by simp only;omega,by simp only;omega⟩,hD,fun j hj=> ?_,hQ,hQe,hall⟩,by simp only;omega⟩;simp only at hj ⊢;by_cases e:j=n
   ·subst e;rw[hv,Int.toNat_natCast];omega
   ·exact hz j (by omega)
 right
 rw[df hi,cond_false];refine Ata ?_
 have h0:St0 ss D:=by
  intro s hsm;obtain⟨k,hk,e⟩:=Ib hsm;rw[<-e];exact hz k (by omega)
 refine B6 (fun s:List Qe×List Int=>Awg N G cs ss s.2 s.1 (fun _ _=>False)) _ (fun s=>2*pot s.2+s.1.length) (fun s hI=> ?_) (Q,D) ⟨hD,h0,hQ,hQe,fun u v hu hv hm g0=>Or.inr (Or.inl (hall u hu g0))⟩
 clear hall hQe hQ hz hDl hD h0 i0 i1 hi
 clear D i Q
 obtain⟨Q,D⟩:=s;obtain⟨hD,h0,hQ,hQe,hed⟩:=hI;simp only at hD h0 hQ hQe hed;have hDl:=hD.1
 try dsimp only
 by_cases hq0:0<(Q.length:Int)
 rotate_left
 ·right
  rw[df hq0,cond_false];refine⟨D,rfl,hD,h0,fun u v hu hv hm g0=> ?_⟩;have:Q=[]:=List.length_eq_zero_iff.1 (by omega);rcases hed u v hu hv hm g0 with e | e | e
  ·exact e
  ·rw[this]at e;simp at e
  ·exact absurd e (fun e=>e)
 left
 rw[dt hq0,cond_true];obtain⟨⟨Q',x,nI⟩,e1,e2⟩:=Aym Q (by intro e;rw[e]at hq0;simp at hq0) (by omega);rw[e1];simp only[Aa]at e2 ⊢;have hql:=e2.length_eq;simp only[Ab]at hql;have htop:=hQe (x,nI) (e2.mem_iff.1 (by simp));simp only at htop;obtain⟨n,rfl⟩:∃n:Nat,nI=(n:Int):=⟨nI.toNat,by omega⟩;rw[Int.toNat_natCast]at htop;have hn:n<N:=by omega
 have bn:=hD.bound hG hn;rw[As (by omega),A0 (show n<D.length by omega)];simp only[Aa];by_cases g1:Am D n<x
 ·rw[dt g1,cond_true];refine⟨_,rfl,⟨hD,h0,by simp only;omega,fun e he=>hQe e (e2.mem_iff.1 (List.mem_cons_of_mem _ he)),fun u v hu hv hm g0=> ?_⟩,by simp only;omega⟩;rcases hed u v hu hv hm g0 with e | e | e
  ·exact Or.inl e
  ·rcases List.mem_cons.1 (e2.mem_iff.2 e)with e3 | e3
   ·simp only[Prod.mk.injEq]at e3;have:u=n:=by omega
    subst this;simp only at g0;omega
   ·exact Or.inr (Or.inl e3)
  ·exact Or.inr (Or.inr e)
 rw[df g1,cond_false];have hx:Am D n=x:=by omega
 have hRn:=hR.2 n hn;have hRl:=hR.1;rw[L0 (by omega)];simp only[Aa];refine Acp (A:=fun s' :List Qe×List Int=>Awg N G cs ss s'.2 s'.1 (fun _ _=>False)/\2*pot s'.2+s'.1.length<2*pot D+Q.length) ?_
 refine B6 (fun s:Int×(List Int×List Qe)=>(0<=s.1/\s.1<=(gAt R n).length)/\Am s.2.1 n=x/\2*pot s.2.1+s.2.2.length<2*pot D+Q.length/\Awg N G cs ss s.2.1 s.2.2 (fun u v=>u=n/\(v:Int)∉(gAt R n).take s.1.toNat)) _ (fun s=>((gAt R n).length - s.1).toNat) (fun s hI=> ?_) (0,(D,Q')) ⟨⟨by simp,by simp⟩,hx,by simp only;omega,hD,h0,by simp only;omega,fun e he=>hQe e (e2.mem_iff.1 (List.mem_cons_of_mem _ he)),fun u v hu hv hm g0=> ?_⟩
 rotate_left
 ·rcases hed u v hu hv hm g0 with e | e | e
  ·exact Or.inl e
  ·rcases List.mem_cons.1 (e2.mem_iff.2 e)with e3 | e3
   ·simp only[Prod.mk.injEq]at e3;have:u=n:=by omega
    exact Or.inr (Or.inr ⟨this,by simp⟩)
   ·exact Or.inr (Or.inl e3)
  ·exact absurd e (fun e=>e)
 obtain⟨j,E,T⟩:=s;obtain⟨⟨j0,j1⟩,hEx,hpot,hE,hE0,hT,hTe,hed2⟩:=hI;simp only at j0 j1 hEx hpot hE hE0 hT hTe hed2;have hEl:=hE.1
 try dsimp only
 by_cases hj:j<((gAt R n).length:Int)
 rotate_left
 ·right
  rw[df hj,cond_false];refine⟨_,rfl,_,rfl,⟨hE,hE0,hT,hTe,fun u v hu hv hm g0=> ?_⟩,hpot⟩;rcases hed2 u v hu hv hm g0 with e | e | ⟨e,e'⟩
  ·exact Or.inl e
  ·exact Or.inr (Or.inl e)
  ·refine absurd ?_ e';rw[List.take_of_length_le (by omega)];subst e;exact(hRn.2.2 v hv).2 hm
 left
 obtain⟨k,rfl⟩:∃k:Nat,j=(k:Int):=⟨j.toNat,by omega⟩;have hk:k<(gAt R n).length:=by omega
 have hmem:Am (gAt R n) k∈gAt R n:=by rw[<-Dm hk];exact List.getElem_mem hk
 have hvr:=hRn.2.1 _ hmem;obtain⟨v,hv⟩:∃v:Nat,Am (gAt R n) k=(v:Int):=⟨(Am (gAt R n) k).toNat,by omega⟩;rw[hv]at hmem;have hvN:v<N:=by omega
 have hedge:(n:Int)∈gAt G v:=(hRn.2.2 v hvN).1 hmem;have hcv:=hc.2 v hvN;have bv:=hE.bound hG hvN;have hsucc:((k:Int)+1).toNat=k+1:=by omega
 have hkk:((k:Int)).toNat=k:=by omega
 rw[hkk]at hed2;rw[dt hj,cond_true,A0 hk];simp only[Aa];rw[hv,A0 (show v<cs.length by omega)];simp only[Aa];rw[As (by omega),A0 (show v<E.length by omega),Aj (z:=x+Am cs v) (by omega),Aj (z:=(k:Int)+1) (by omega)];simp only[Aa];have act:(Am E v<0\/x+Am cs v<Am E v)->∃T',Eg (T,(x+Am cs v,(v:Int)))=some T'∧(((0<=(k:Int)+1/\(k:Int)+1<=(gAt R n).length)/\Am (E.set v (x+Am cs v)) n=x/\2*pot (E.set v (x+Am cs v))+T'.length<2*pot D+Q.length/\Awg N G cs ss (E.set v (x+Am cs v)) T' (fun u v=>u=n/\(v:Int)∉(gAt R n).take ((k:Int)+1).toNat))/\((gAt R n).length - ((k:Int)+1)).toNat<((gAt R n).length - (k:Int)).toNat):=by
  intro hlt;have r:=Axh hG hc hE hn hvN hedge (by omega) (by rw[hEx];exact hlt);rw[hEx]at r;obtain⟨r1,r2,r3⟩:=r;obtain⟨T',p1,p2⟩:=Aoh T (x+Am cs v,(v:Int)) (by omega);have hTl:=p2.length_eq;simp only[Ab]at hTl;have hset:=fun w=>C6 (D:=E) (k:=v) (x+Am cs v) w (by omega)
  refine⟨T',p1,⟨⟨by omega,by omega⟩,by rw[hset,if_neg r3];exact hEx,by omega,r1,Adb hE0 (by omega) (by omega) hlt,by omega,fun e he=> ?_,fun u w hu hw hm g0=> ?_⟩,by omega⟩
  ·rw[hset];rcases List.mem_cons.1 (p2.mem_iff.1 he)with e3 | e3
   ·subst e3;refine⟨⟨by simp only;omega,by simp only;omega⟩,?_⟩;rw[if_pos (Int.toNat_natCast v)];exact⟨by omega,by simp⟩
   ·have:=hTe e e3;refine⟨this.1,?_⟩;split
    ·rename_i hq;rw[hq]at this;omega
    ·exact this.2
  ·rw[hset]at g0;rw[hset];by_cases qu:u=v
   ·subst qu;rw[if_pos rfl];exact Or.inr (Or.inl (p2.mem_iff.2 (by simp)))
   ·rw[if_neg qu]at g0 ⊢;have hw1:Sat cs E u w->Sat cs (E.set v (x+Am cs v)) u w:=by
     intro e;unfold Sat at*;rw[hset,hset,if_neg qu];split
     ·rename_i hq;subst hq;omega
     ·exact e
    rcases hed2 u w hu hw hm g0 with e | e | ⟨e,e'⟩
    ·exact Or.inl (hw1 e)
    ·exact Or.inr (Or.inl (p2.mem_iff.2 (List.mem_cons_of_mem _ e)))
    ·by_cases qw:w=v
     ·left
      subst qw e;unfold Sat;rw[hset,hset,if_neg qu,if_pos rfl,hEx];omega
     ·right;right
      refine⟨e,?_⟩;rw[hsucc,D3 hk,hv];intro q;rcases List.mem_append.1 q with q | q
      ·exact e' q
      ·have:=List.mem_singleton.1 q;omega
 by_cases g2:Am E v= -1
 ·rw[dt g2,cond_true,B8];obtain⟨T',p1,p2⟩:=act (Or.inl (by omega));rw[p1];exact⟨_,rfl,p2⟩
 rw[df g2,cond_false];by_cases g3:x+Am cs v<Am E v
 ·rw[dt g3,cond_true,B8];obtain⟨T',p1,p2⟩:=act (Or.inr g3);rw[p1];exact⟨_,rfl,p2⟩
 rw[df g3,cond_false];refine⟨_,rfl,⟨⟨by simp only;omega,by simp only;omega⟩,hEx,hpot,hE,hE0,hT,hTe,fun u w hu hw hm g0=> ?_⟩,by simp only;omega⟩;rcases hed2 u w hu hw hm g0 with e | e | ⟨e,e'⟩
 ·exact Or.inl e
 ·exact Or.inr (Or.inl e)
 ·by_cases qw:w=v
  ·left
   simp only;rw[qw,e];exact⟨by omega,by rw[hEx];omega⟩
  ·right;right
   refine⟨e,?_⟩;simp only;rw[hsucc,D3 hk,hv];intro q;rcases List.mem_append.1 q with q | q
   ·exact e' q
   ·have:=List.mem_singleton.1 q;omega
theorem Adc {d:Dev}{n x:Int}(h:x∈Hd d n):0<=x/\x<Aq d:=by
 have hr:=Ag4 h;have hd:=hr.1;have hT:=hd.2.2.1;have hp:=Dk hd;obtain⟨⟨ht0,ht1⟩,_,_⟩:=Ii hd hr.2.1 hr.2.2.1;unfold Hd at h;split at h
 rotate_left
 ·simp at h
 rcases O9.1 h with h | h
 ·simp at h
 unfold Zj at h;rcases List.mem_append.1 h with h | h
 ·have hw:=(Aob (s:=A5 d n) (dir:=0) (trk:=0) hd ht1 (by omega) (by omega) ht0);unfold s0P at h;split at h
  ·have:x=A5 d n*per d+5\/x=A5 d n*per d+6:=by
    unfold Y7 at h;split at h<;>simp at h<;>omega
   omega
  ·simp at h
 ·obtain⟨dir,q0,h⟩:=Gr.1 h;obtain⟨t2,q2,h⟩:=Gr.1 h;obtain⟨i2,h⟩:=J7 h;exact(Jt hd q0 (by omega) h).2.2.2.2.2
def dG (d:Dev):List (List Int):=(List.range (Aq d).toNat).map fun(v:Nat)=>Hd d (v:Int)
theorem Amu (d:Dev):(dG d).length=(Aq d).toNat:=by simp[dG]
theorem Aoy (d:Dev){v:Nat}(h:v<(Aq d).toNat):gAt (dG d) v=Hd d (v:Int):=by
 unfold gAt dG;rw[List.getD,List.getElem?_map,List.getElem?_range h];rfl
theorem Afq {d:Dev}(h:DOk d):Wz (Aq d).toNat (dG d):=by
 have hn:=Bo h;refine⟨Amu d,by omega,fun v hv=> ?_⟩;rw[Aoy d hv];refine⟨Nat.le_trans (Afe d _) (by decide),fun x hx=> ?_⟩;have:=Adc hx;omega
theorem Jw (f:Nat->List Int)(n:Nat):(List.range (n+1)).map f=(List.range n).map f++[f n]:=by
 rw[List.range_succ,List.map_append];rfl
theorem Add {d:Dev}(h:DOk d):H3 d=some (dG d):=by
 have hn:=Bo h;unfold H3 dG;refine Ao (Aq d).toNat (fun k=>((k:Int),(List.range k).map fun(v:Nat)=>Hd d (v:Int))) (fun k hk=> ?_) ?_
 ·try dsimp only
  rw[Dq,if_pos h];simp only[Aa];rw[dt (show(k:Int)<Aq d by omega),cond_true,Aqi];simp only[Aa];rw[Br (by simp;omega) (by simp;omega)];simp only[Aa];rw[Aj (by omega),Jw];rfl
 ·try dsimp only
  rw[Dq,if_pos h];simp only[Aa];rw[df (by omega),cond_false];rfl
theorem Zn {d:Dev}(h:DOk d):Ig d=some (dG d):=by
 have hn:=Bo h;unfold Ig;rw[Dr h];simp only[Aa];obtain⟨N,hN⟩:∃N:Nat,Aq d=(N:Int):=⟨(Aq d).toNat,by omega⟩;rw[hN,Bz (by omega) (by omega)];simp only[Aa,List.length_replicate];have hdG:dG d=(List.range N).map fun(v:Nat)=>Hd d (v:Int):=by unfold dG;rw[hN];rfl
 rw[hdG];have e0:((0:Int),List.replicate N ([]:List Int))=(fun k:Nat=>((k:Int),((List.range k).map fun(v:Nat)=>Hd d (v:Int))++List.replicate (N - k) [])) 0:=by simp
 rw[e0];refine Ao N (fun k=>((k:Int),((List.range k).map fun(v:Nat)=>Hd d (v:Int))++List.replicate (N - k) [])) (fun k hk=> ?_) ?_
 ·have hl:(((List.range k).map fun(v:Nat)=>Hd d (v:Int))++List.replicate (N - k) ([]:List Int)).length=N:=by simp;omega
  try dsimp only
  rw[dt (show(k:Int)<(N:Int)by omega),cond_true,Aqk];simp only[Aa];rw[hl,As hk,Ar (show k<_ by rw[hl];exact hk)];simp only[Aa];rw[Aj (by omega),B8,List.set_append_right _ _ (by simp)];have e1:k - ((List.range k).map fun(v:Nat)=>Hd d (v:Int)).length=0:=by simp
  obtain⟨m,hm⟩:∃m,N - k=m+1:=⟨N - k - 1,by omega⟩;have e2:N - (k+1)=m:=by omega
  rw[e1,hm,List.replicate_succ,List.set_cons_zero,e2,Jw];simp
 ·try dsimp only
  rw[df (show ¬(N:Int)<(N:Int)by omega),cond_false];simp
theorem Awh {R:List (List Int)}{k:Nat}(x:List Int)(j:Nat)(h:k<R.length):gAt (R.set k x) j=if j=k then x else gAt R j:=by
 unfold gAt;rw[List.getD_eq_getElem?_getD,List.getD_eq_getElem?_getD];by_cases e:j=k
 ·rw[if_pos e,e,List.getElem?_set_self h];rfl
 ·rw[if_neg e,List.getElem?_set_ne (by omega)]
theorem Vd {d:Dev}(h:DOk d):∃R,Hn d=some (dG d,R)/\Uh (Aq d).toNat (dG d) R:=by
 have hn:=Bo h;unfold Hn;rw[Zn h,Dr h];simp only[Aa];have hGr:=Afq h;have hGl:=Amu d;have hat:=fun v hv=>Aoy d (v:=v) hv
 obtain⟨N,hN⟩:∃N:Nat,Aq d=(N:Int):=⟨(Aq d).toNat,by omega⟩;have hNN:(Aq d).toNat=N:=by omega
 rw[hNN]at hGr hGl hat ⊢;rw[hN,Bz (by omega) (by omega)];simp only[Aa];have key:∀r:Option (List (List Int)×List (List Int)),(∃o,r=some o/\∃R,o=(dG d,R)/\Uh N (dG d) R)->∃R,r=some (dG d,R)/\Uh N (dG d) R:=by
  rintro r ⟨o,h1,R,h2,h3⟩
  exact⟨R,by rw[h1,h2],h3⟩
 refine key _ ?_
 refine B6 (fun s:Int×List (List Int)=>(0<=s.1/\s.1<=(N:Int))/\s.2.length=N/\∀u,u<N->((gAt s.2 u).length:Int)<=s.1*34/\(∀x,x∈gAt s.2 u↔∃v:Nat,x=(v:Int)/\(v:Int)<s.1/\v<N/\(u:Int)∈gAt (dG d) v)) _ (fun s=>(N - s.1).toNat) (fun s hI=> ?_) (0,List.replicate N ([]:List Int)) ⟨⟨by simp,by simp⟩,by simp,fun u hu=> ?_⟩
 rotate_left
 ·have e:gAt (List.replicate N ([]:List Int)) u=[]:=by unfold gAt;rw[List.getD,List.getElem?_replicate,if_pos hu];rfl
  simp only;rw[e];refine⟨by simp,fun x=>⟨fun q=>by simp at q,?_⟩⟩
  rintro⟨v,_,q,_⟩
  omega
 obtain⟨i,R⟩:=s;obtain⟨⟨i0,i1⟩,hRl,hR⟩:=hI;simp only at i0 i1 hRl hR
 try dsimp only
 by_cases hi:i<((dG d).length:Int)
 rotate_left
 ·right
  rw[df hi,cond_false];refine⟨_,rfl,R,rfl,hRl,fun u hu=> ?_⟩;have:=hR u hu;refine⟨by omega,fun x hx=> ?_,fun v hv=> ?_⟩
  ·obtain⟨v,e1,e2,e3,_⟩:=(this.2 x).1 hx;omega
  ·rw[this.2]
   constructor
   ·rintro⟨w,e1,_,_,e2⟩
    have:w=v:=by omega
    subst this;exact e2
   ·intro e;exact⟨v,rfl,by omega,hv,e⟩
 left
 obtain⟨k,rfl⟩:∃k:Nat,i=(k:Int):=⟨i.toNat,by omega⟩;have hk:k<N:=by omega
 rw[dt hi,cond_true,As (by omega),L0 (by omega)];simp only[Aa];have hgk:=hGr.2.2 k hk;have hgl:(gAt (dG d) k).length<=34:=by rw[hat k hk];exact Afe d _
 refine Acp (A:=fun s' :Int×List (List Int)=>((0<=s'.1/\s'.1<=(N:Int))/\s'.2.length=N/\∀u,u<N->((gAt s'.2 u).length:Int)<=s'.1*34/\(∀x,x∈gAt s'.2 u↔∃v:Nat,x=(v:Int)/\(v:Int)<s'.1/\v<N/\(u:Int)∈gAt (dG d) v))/\(N - s'.1).toNat<(N - (k:Int)).toNat) ?_
 refine B6 (fun s:Int×List (List Int)=>(0<=s.1/\s.1<=((gAt (dG d) k).length:Int))/\s.2.length=N/\∀u,u<N->((gAt s.2 u).length:Int)<=(k:Int)*34+s.1/\(∀x,x∈gAt s.2 u↔(∃v:Nat,x=(v:Int)/\v<k/\v<N/\(u:Int)∈gAt (dG d) v)\/(x=(k:Int)/\(u:Int)∈(gAt (dG d) k).take s.1.toNat))) _ (fun s=>((gAt (dG d) k).length - s.1).toNat) (fun s hI=> ?_) (0,R) ⟨⟨by simp,by simp⟩,hRl,fun u hu=> ?_⟩
 rotate_left
 ·have:=hR u hu;refine⟨by simp only;omega,fun x=> ?_⟩;simp only;rw[this.2 x]
  constructor
  ·rintro⟨v,e1,e2,e3,e4⟩
   exact Or.inl ⟨v,e1,by omega,e3,e4⟩
  ·rintro(⟨v,e1,e2,e3,e4⟩ | ⟨_,e⟩)
   ·exact⟨v,e1,by omega,e3,e4⟩
   ·simp at e
 clear hR hRl
 clear R
 obtain⟨j,R⟩:=s;obtain⟨⟨j0,j1⟩,hRl,hR⟩:=hI;simp only at j0 j1 hRl hR
 try dsimp only
 by_cases hj:j<((gAt (dG d) k).length:Int)
 rotate_left
 ·right
  rw[df hj,cond_false,Aj (z:=(k:Int)+1) (by omega)];refine⟨_,rfl,_,rfl,⟨⟨by simp only;omega,by simp only;omega⟩,hRl,fun u hu=> ?_⟩,by simp only;omega⟩;have:=hR u hu;refine⟨by simp only;omega,fun x=> ?_⟩;simp only;rw[this.2 x,List.take_of_length_le (by omega)]
  constructor
  ·rintro(⟨v,e1,e2,e3,e4⟩ | ⟨e1,e2⟩)
   ·exact⟨v,e1,by omega,e3,e4⟩
   ·exact⟨k,e1,by omega,hk,e2⟩
  ·rintro⟨v,e1,e2,e3,e4⟩
   by_cases q:v=k
   ·subst q;exact Or.inr ⟨e1,e4⟩
   ·exact Or.inl ⟨v,e1,by omega,e3,e4⟩
 left
 obtain⟨n,rfl⟩:∃n:Nat,j=(n:Int):=⟨j.toNat,by omega⟩;have hnl:n<(gAt (dG d) k).length:=by omega
 have hmem:Am (gAt (dG d) k) n∈gAt (dG d) k:=by rw[<-Dm hnl];exact List.getElem_mem hnl
 have hur:=hgk.2 _ hmem;obtain⟨w,hw⟩:∃w:Nat,Am (gAt (dG d) k) n=(w:Int):=⟨(Am (gAt (dG d) k) n).toNat,by omega⟩;have hwN:w<N:=by omega
 have hRw:=hR w hwN;rw[dt hj,cond_true,A0 hnl];simp only[Aa];rw[hw,As (by omega),L0 (by omega)];simp only[Aa];rw[gapp_ok (by simp only[Ab,Ac];omega)];simp only[Aa];rw[B8,Aj (z:=(n:Int)+1) (by omega)];have hsucc:((n:Int)+1).toNat=n+1:=by omega
 refine⟨_,rfl,⟨⟨by simp only;omega,by simp only;omega⟩,by simp only[List.length_set];exact hRl,fun u hu=> ?_⟩,by simp only;omega⟩;simp only;rw[Awh _ _ (by omega),hsucc,D3 hnl,hw];have hRu:=hR u hu;rw[Int.toNat_natCast]at hRu hRw;by_cases q:u=w
 ·subst q;rw[if_pos rfl];refine⟨by simp only[Ad,Ab,Ac];omega,fun x=> ?_⟩;rw[List.mem_append,hRu.2 x,List.mem_singleton,List.mem_append]
  constructor
  ·rintro((e | e) | e)
   ·exact Or.inl e
   ·exact Or.inr ⟨e.1,Or.inl e.2⟩
   ·exact Or.inr ⟨e,Or.inr (by simp)⟩
  ·rintro(e | ⟨e1,e2⟩)
   ·exact Or.inl (Or.inl e)
   ·exact Or.inr e1
 ·rw[if_neg q];refine⟨by omega,fun x=> ?_⟩;rw[hRu.2 x,List.mem_append,List.mem_singleton]
  constructor
  ·rintro(e | e)
   ·exact Or.inl e
   ·exact Or.inr ⟨e.1,Or.inl e.2⟩
  ·rintro(e | ⟨e1,e2 | e2⟩)
   ·exact Or.inl e
   ·exact Or.inr ⟨e1,e2⟩
   ·omega
end Go.Pf
/-
  Own work. Distances of the device's graph: both sides alike; starts and costs.
-/
namespace Go.Pf
open Go Go.Pu
set_option linter.unusedVariables false
end Go.Pf
