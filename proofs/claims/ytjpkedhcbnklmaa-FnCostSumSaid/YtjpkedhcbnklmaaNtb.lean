/-
  Own work. Networks of look-up tables: when they are well formed; how often their nodes are used.
-/
import Derived.Test.YtjpkedhcbnklmaaNet
import Derived.Test.YtjpkedhcbnklmaaDsa
namespace Go.Pf
open Go Go.Pu
set_option linter.unusedVariables false
def belowP (xs:List Int) (m:Int):Bool:=xs.all fun x=>decide (0<=x/\x<m)
theorem belowP_mem {xs:List Int} {m:Int} (h:belowP xs m=true):∀x∈xs,0<=x/\x<m:=fun x hx=>of_decide_eq_true (List.all_eq_true.1 h x hx)
theorem below_eq (xs:List Int) (m:Int):belowP xs m=if (List.range xs.length).all (fun k=>if hk:k<xs.length then decide (0<=xs[k]/\xs[k]<m) else true)=true then true else false:=by
  rw [all_range_list xs (fun x=>decide (0<=x/\x<m)) _ (fun k hk=>by rw [dif_pos hk])]
  show belowP xs m=if belowP xs m=true then true else false
  cases belowP xs m<;>rfl
theorem below_spec (xs:List Int) (m:Int) (hl:xs.length<=1048576):spec_l20Below (xs,m)=some (belowP xs m):=by
  unfold spec_l20Below
  rw [below_eq]
  refine loop_all xs.length (fun k=>(k:Int)) _ false true (fun k hk hok=> ?_) (fun k hk hok=> ?_) ?_
  · rw [dif_pos hk] at hok
    have hok:=of_decide_eq_true hok
    try dsimp only
    rw [dt (show (k:Int)<(xs.length:Int) by omega),cond_true,gget_nat hk]
    simp only [Option.bind_some]
    rw [df (show ¬xs[k]<0 by omega),cond_false,df (show ¬m<=xs[k] by omega),cond_false,wrap_ok (by omega)];rfl
  · rw [dif_pos hk] at hok
    have hok:=of_decide_eq_false hok
    try dsimp only
    rw [dt (show (k:Int)<(xs.length:Int) by omega),cond_true,gget_nat hk]
    simp only [Option.bind_some]
    by_cases g:xs[k]<0
    · rw [dt g];rfl
    · rw [df g,cond_false,dt (show m<=xs[k] by omega)];rfl
  · try dsimp only
    rw [df (by omega),cond_false];rfl
theorem below_impl (xs:List Int) (m:Int) (hl:xs.length<=1048576) (hm: -1000<=m/\m<=10000000):impl_nodesBelow (xs,m)=some (belowP xs m):=by
  unfold impl_nodesBelow
  rw [below_eq]
  try dsimp only
  refine loop_all xs.length (fun k=>(k:Int)) _ false true (fun k hk hok=> ?_) (fun k hk hok=> ?_) ?_
  · rw [dif_pos hk] at hok
    have hok:=of_decide_eq_true hok
    try dsimp only
    rw [dt (show (k:Int)<(xs.length:Int) by omega),cond_true,gget_nat hk]
    simp only [Option.bind_some]
    rw [wrap_ok (z:=m - 1) (by omega),inR_impl]
    simp only [Option.bind_some]
    rw [dt (by omega),Bool.not_true,cond_false,wrap_ok (by omega)];rfl
  · rw [dif_pos hk] at hok
    have hok:=of_decide_eq_false hok
    try dsimp only
    rw [dt (show (k:Int)<(xs.length:Int) by omega),cond_true,gget_nat hk]
    simp only [Option.bind_some]
    rw [wrap_ok (z:=m - 1) (by omega),inR_impl]
    simp only [Option.bind_some]
    rw [df (by omega)];rfl
  · try dsimp only
    rw [df (by omega),cond_false];rfl
def lnOk (n:Net):Prop:=(0<=n.1/\n.1<=20)/\n.2.1.length<=12/\n.2.2.1.length<=400/\n.2.2.2.length<=16
instance (n:Net):Decidable (lnOk n):=by unfold lnOk;exact inferInstance
def fstP (n:Net):Int:=1+n.1+n.2.1.length
def lnV (n:Net):Int:=fstP n+n.2.2.1.length
def lnP (n:Net):Int:=if lnOk n then lnV n else 0
theorem lnV_le {n:Net} (h:lnOk n):(1<=fstP n/\fstP n<=33)/\1<=lnV n/\lnV n<=433:=by
  obtain ⟨h1,h2,h3,h4⟩:=h
  unfold lnV fstP;omega
theorem ln_spec (n:Net):spec_LutNodes n=some (lnP n):=by
  unfold spec_LutNodes lnP
  try dsimp only
  rw [inR_spec]
  simp only [Option.bind_some]
  by_cases h1:0<=n.1/\n.1<=20
  rotate_left
  · rw [df h1,if_neg (fun e=>h1 e.1)];rfl
  rw [dt h1,Bool.not_true,cond_false]
  by_cases h2:12<(n.2.1.length:Int)
  · rw [dt h2,if_neg (fun e=>by have:=e.2.1;omega)];rfl
  rw [df h2,cond_false]
  by_cases h3:400<(n.2.2.1.length:Int)
  · rw [dt h3,if_neg (fun e=>by have:=e.2.2.1;omega)];rfl
  rw [df h3,cond_false]
  by_cases h4:16<(n.2.2.2.length:Int)
  · rw [dt h4,if_neg (fun e=>by have:=e.2.2.2;omega)];rfl
  rw [df h4,cond_false,if_pos ⟨h1,by omega,by omega,by omega⟩,wrap_ok (z:=1+n.1) (by omega),wrap_ok (z:=1+n.1+(n.2.1.length:Int)) (by omega),wrap_ok (by omega)]
  rfl
theorem lnv_impl {n:Net} (h:lnOk n):impl_lutNodes n=some (lnV n):=by
  obtain ⟨h1,h2,h3,h4⟩:=h
  unfold impl_lutNodes
  try dsimp only
  rw [wrap_ok (z:=1+n.1) (by omega),wrap_ok (z:=1+n.1+(n.2.1.length:Int)) (by omega),wrap_ok (by omega)]
  rfl
theorem ln_impl (n:Net):impl_LutNodes n=some (lnP n):=by
  unfold impl_LutNodes lnP
  try dsimp only
  rw [inR_impl]
  simp only [Option.bind_some]
  by_cases h1:0<=n.1/\n.1<=20
  rotate_left
  · rw [df h1,if_neg (fun e=>h1 e.1)];rfl
  rw [dt h1,Bool.not_true,cond_false]
  by_cases h2:12<(n.2.1.length:Int)
  · rw [dt h2,if_neg (fun e=>by have:=e.2.1;omega)];rfl
  rw [df h2,cond_false]
  by_cases h3:400<(n.2.2.1.length:Int)
  · rw [dt h3,if_neg (fun e=>by have:=e.2.2.1;omega)];rfl
  rw [df h3,cond_false]
  by_cases h4:16<(n.2.2.2.length:Int)
  · rw [dt h4,if_neg (fun e=>by have:=e.2.2.2;omega)];rfl
  have hl:lnOk n:=⟨h1,by omega,by omega,by omega⟩
  rw [df h4,cond_false,if_pos hl,lnv_impl hl]
  rfl
theorem fst_spec {n:Net} (h:lnOk n):spec_l20First n=some (fstP n):=by
  obtain ⟨h1,h2,h3,h4⟩:=h
  unfold spec_l20First
  try dsimp only
  rw [wrap_ok (z:=1+n.1) (by omega),wrap_ok (by omega)]
  rfl
theorem fst_impl {n:Net} (h:lnOk n):impl_firstLut n=some (fstP n):=fst_spec h
def fullP (k:Int):Int:=if k=0 then 1 else if k=1 then 3 else if k=2 then 15 else if k=3 then 255 else 65535
def tblP (k t:Int):Prop:=(0<=k/\k<=4)/\0<=t/\t<=fullP k
instance (k t:Int):Decidable (tblP k t):=by unfold tblP;exact inferInstance
theorem full_cases {k:Int} (h:0<=k/\k<=4):spec_l02Full k=some (fullP k):=by
  have:k=0\/k=1\/k=2\/k=3\/k=4:=by omega
  rcases this with rfl | rfl | rfl | rfl | rfl<;>rfl
theorem tbl_spec (k t:Int):spec_TableOk (k,t)=some (decide (tblP k t)):=by
  unfold spec_TableOk
  rw [inR_spec]
  simp only [Option.bind_some]
  by_cases h:0<=k/\k<=4
  rotate_left
  · rw [df h,df (show ¬tblP k t from fun e=>h e.1)];rfl
  rw [dt h,cond_true]
  by_cases h2:0<=t
  rotate_left
  · rw [df h2,df (show ¬tblP k t from fun e=>h2 e.2.1)];rfl
  rw [dt h2,cond_true,full_cases h]
  simp only [Option.bind_some]
  congr 1
  rw [decide_eq_decide]
  exact ⟨fun e=>⟨h,h2,e⟩,fun e=>e.2.2⟩
theorem tbl_impl (k t:Int):impl_TableOk (k,t)=some (decide (tblP k t)):=by
  unfold impl_TableOk
  rw [inR_impl]
  simp only [Option.bind_some]
  by_cases h:0<=k/\k<=4
  rotate_left
  · rw [df h,df (show ¬tblP k t from fun e=>h e.1)];rfl
  rw [dt h,cond_true]
  have hf:(gshift true .u64 1 (wrap .u64 k)).bind (fun v3=>(gshift true .i64 1 v3).bind fun v4=>some (wrap .i64 (v4 - 1)))=some (fullP k):=by
    have:k=0\/k=1\/k=2\/k=3\/k=4:=by omega
    rcases this with rfl | rfl | rfl | rfl | rfl<;>rfl
  have hf2:∀g:Int->Option Bool,(gshift true .u64 1 (wrap .u64 k)).bind (fun v3=>(gshift true .i64 1 v3).bind fun v4=>g (wrap .i64 (v4 - 1)))=((gshift true .u64 1 (wrap .u64 k)).bind (fun v3=>(gshift true .i64 1 v3).bind fun v4=>some (wrap .i64 (v4 - 1)))).bind g:=by
    intro g
    cases gshift true .u64 1 (wrap .u64 k) with
    | none=>rfl
    | some v=>
      simp only [Option.bind_some]
      cases gshift true .i64 1 v<;>rfl
  have:=hf2 (fun v5=>(impl_inRange (t,(0,v5))).bind fun v6=>some v6)
  try dsimp only
  rw [this,hf]
  simp only [Option.bind_some]
  rw [inR_impl]
  simp only [Option.bind_some]
  congr 1
  rw [decide_eq_decide]
  exact ⟨fun e=>⟨h,e⟩,fun e=>e.2⟩
def seqP (s:Seq):Prop:=(s.1=0/\(0<=s.2.1/\s.2.1<=1)/\s.2.2.length=1)\/(s.1=1/\(0<=s.2.1/\s.2.1<=31)/\s.2.2.length=4)
instance (s:Seq):Decidable (seqP s):=by unfold seqP;exact inferInstance
theorem seq_impl (s:Seq):impl_seqOk s=some (decide (seqP s)):=by
  unfold impl_seqOk
  try dsimp only
  rw [inR_impl,inR_impl]
  simp only [Option.bind_some]
  by_cases h0:s.1=0
  · rw [dt h0,cond_true]
    by_cases h1:0<=s.2.1/\s.2.1<=1
    · rw [dt h1,cond_true]
      congr 1
      rw [decide_eq_decide]
      exact ⟨fun e=>Or.inl ⟨h0,h1,by omega⟩,fun e=>by rcases e with e | e<;>omega⟩
    · rw [df h1,df (show ¬seqP s from fun e=>by rcases e with e | e<;>omega)];rfl
  · rw [df h0,cond_false]
    by_cases h1:s.1=1
    · rw [dt h1,cond_true]
      by_cases h2:0<=s.2.1/\s.2.1<=31
      · rw [dt h2,cond_true]
        congr 1
        rw [decide_eq_decide]
        exact ⟨fun e=>Or.inr ⟨h1,h2,by omega⟩,fun e=>by rcases e with e | e<;>omega⟩
      · rw [df h2,df (show ¬seqP s from fun e=>by rcases e with e | e<;>omega)];rfl
    · rw [df h1,df (show ¬seqP s from fun e=>by rcases e with e | e<;>omega)];rfl
def sqAt (ss:List Seq) (k:Nat):Seq:=ss.getD k (0,(0,[]))
def ltAt (ls:List Lut) (k:Nat):Lut:=ls.getD k ([],0)
theorem sq_get {ss:List Seq} {k:Nat} (h:k<ss.length):gget ((0,(0,[])):Seq) ss (k:Int)=some (sqAt ss k)/\sqAt ss k∈ss:=by
  unfold sqAt
  rw [gget_nat h,List.getD,List.getElem?_eq_getElem h]
  exact ⟨rfl,List.getElem_mem h⟩
theorem lt_get {ls:List Lut} {k:Nat} (h:k<ls.length):gget (([],0):Lut) ls (k:Int)=some (ltAt ls k)/\ltAt ls k∈ls:=by
  unfold ltAt
  rw [gget_nat h,List.getD,List.getElem?_eq_getElem h]
  exact ⟨rfl,List.getElem_mem h⟩
def sqOk (n:Net) (k:Nat):Prop:=seqP (sqAt n.2.1 k)/\belowP (sqAt n.2.1 k).2.2 (lnV n)=true
def ltOk (n:Net) (k:Nat):Prop:=tblP ((ltAt n.2.2.1 k).1.length:Int) (ltAt n.2.2.1 k).2/\belowP (ltAt n.2.2.1 k).1 (fstP n+k)=true
instance (n:Net) (k:Nat):Decidable (sqOk n k):=by unfold sqOk;exact inferInstance
instance (n:Net) (k:Nat):Decidable (ltOk n k):=by unfold ltOk;exact inferInstance
def netP (n:Net):Bool:=
  if lnOk n/\belowP n.2.2.2 (lnV n)=true then (if (List.range n.2.1.length).all (fun k=>decide (sqOk n k))=true then (if (List.range n.2.2.1.length).all (fun k=>decide (ltOk n k))=true then true else false) else false) else false
theorem netP_all {n:Net} (h:netP n=true):lnOk n/\belowP n.2.2.2 (lnV n)=true/\(∀k,k<n.2.1.length->sqOk n k)/\(∀k,k<n.2.2.1.length->ltOk n k):=by
  unfold netP at h
  split at h
  rotate_left
  · simp at h
  rename_i h1
  split at h
  rotate_left
  · simp at h
  rename_i h2
  split at h
  rotate_left
  · simp at h
  rename_i h3
  exact ⟨h1.1,h1.2,fun k hk=>of_decide_eq_true (List.all_eq_true.1 h2 k (List.mem_range.2 hk)),fun k hk=>of_decide_eq_true (List.all_eq_true.1 h3 k (List.mem_range.2 hk))⟩
theorem net_spec (n:Net) (h:NetB n):spec_LutNetOk n=some (netP n):=by
  unfold spec_LutNetOk netP
  rw [ln_spec]
  simp only [Option.bind_some]
  by_cases hl:lnOk n
  rotate_left
  · have e:lnP n=0:=by unfold lnP;rw [if_neg hl]
    rw [dt e,if_neg (fun e=>hl e.1)];rfl
  have e:lnP n=lnV n:=by unfold lnP;rw [if_pos hl]
  have hv:=lnV_le hl
  rw [e,df (show ¬lnV n=0 by omega),cond_false,below_spec _ _ h.2.2]
  simp only [Option.bind_some]
  cases ho:belowP n.2.2.2 (lnV n) with
  | false=>rw [if_neg (by simp)];rfl
  | true=>
  rw [if_pos ⟨hl,rfl⟩,Bool.not_true,cond_false]
  have hl2:=hl.2.1
  have hl3:=hl.2.2.1
  refine loop_all n.2.1.length (fun k=>(k:Int)) _ false _ (fun k hk hok=> ?_) (fun k hk hok=> ?_) ?_
  · have hok:=of_decide_eq_true hok
    obtain ⟨g1,g2⟩:=sq_get hk
    have gl:=h.1.at g2
    obtain ⟨o1,o2⟩:=hok
    try dsimp only
    rw [dt (show (k:Int)<(n.2.1.length:Int) by omega),cond_true,g1]
    simp only [Option.bind_some]
    rw [below_spec _ _ gl,inR_spec,inR_spec,o2,wrap_ok (by omega)]
    simp only [Option.bind_some]
    generalize sqAt n.2.1 k=s at*
    rcases o1 with ⟨p1,p2,p3⟩ | ⟨p1,p2,p3⟩
    · rw [dt p1,cond_true,dt p2,cond_true,dt (show (s.2.2.length:Int)=1 by omega)];rfl
    · rw [df (show ¬s.1=0 by omega),cond_false,dt p1,cond_true,dt p2,cond_true,dt (show (s.2.2.length:Int)=4 by omega)];rfl
  · have hok:=of_decide_eq_false hok
    obtain ⟨g1,g2⟩:=sq_get hk
    have gl:=h.1.at g2
    unfold sqOk at hok
    try dsimp only
    rw [dt (show (k:Int)<(n.2.1.length:Int) by omega),cond_true,g1]
    simp only [Option.bind_some]
    rw [below_spec _ _ gl,inR_spec,inR_spec,wrap_ok (by omega)]
    simp only [Option.bind_some]
    generalize sqAt n.2.1 k=s at*
    by_cases h0:s.1=0
    · rw [dt h0,cond_true,df (show ¬s.1=1 by omega)]
      by_cases h1:0<=s.2.1/\s.2.1<=1
      · rw [dt h1,cond_true]
        by_cases h2:(s.2.2.length:Int)=1
        · rw [dt h2,cond_true]
          cases hb:belowP s.2.2 (lnV n) with
          | false=>rfl
          | true=>exact absurd ⟨Or.inl ⟨h0,h1,by omega⟩,hb⟩ hok
        · rw [df h2];rfl
      · rw [df h1];rfl
    · rw [df h0,cond_false]
      by_cases h1:s.1=1
      · rw [dt h1,cond_true]
        by_cases h2:0<=s.2.1/\s.2.1<=31
        · rw [dt h2,cond_true]
          by_cases h3:(s.2.2.length:Int)=4
          · rw [dt h3]
            cases hb:belowP s.2.2 (lnV n) with
            | false=>rfl
            | true=>exact absurd ⟨Or.inr ⟨h1,h2,by omega⟩,hb⟩ hok
          · rw [df h3];rfl
        · rw [df h2];rfl
      · rw [df h1];rfl
  · try dsimp only
    rw [df (by omega),cond_false]
    refine (Option.map_eq_some_iff).2 ⟨_,?_,rfl⟩
    refine loop_all n.2.2.1.length (fun k=>(k:Int)) _ false true (fun k hk hok=> ?_) (fun k hk hok=> ?_) ?_
    · have hok:=of_decide_eq_true hok
      obtain ⟨g1,g2⟩:=lt_get hk
      have gl:=h.2.1.at g2
      obtain ⟨o1,o2⟩:=hok
      try dsimp only
      rw [dt (show (k:Int)<(n.2.2.1.length:Int) by omega),cond_true,g1]
      simp only [Option.bind_some]
      rw [tbl_spec,fst_spec hl]
      simp only [Option.bind_some]
      rw [dt o1,Bool.not_true,cond_false,wrap_ok (z:=fstP n+(k:Int)) (by omega),below_spec _ _ gl,o2,wrap_ok (by omega)];rfl
    · have hok:=of_decide_eq_false hok
      obtain ⟨g1,g2⟩:=lt_get hk
      have gl:=h.2.1.at g2
      unfold ltOk at hok
      try dsimp only
      rw [dt (show (k:Int)<(n.2.2.1.length:Int) by omega),cond_true,g1]
      simp only [Option.bind_some]
      rw [tbl_spec,fst_spec hl]
      simp only [Option.bind_some]
      by_cases o1:tblP ((ltAt n.2.2.1 k).1.length:Int) (ltAt n.2.2.1 k).2
      rotate_left
      · rw [df o1];rfl
      rw [dt o1,Bool.not_true,cond_false,wrap_ok (z:=fstP n+(k:Int)) (by omega),below_spec _ _ gl]
      simp only [Option.bind_some]
      cases hb:belowP (ltAt n.2.2.1 k).1 (fstP n+k) with
      | false=>rfl
      | true=>exact absurd ⟨o1,hb⟩ hok
    · try dsimp only
      rw [df (by omega),cond_false];rfl
theorem net_impl (n:Net) (h:NetB n):impl_LutNetOk n=some (netP n):=by
  unfold impl_LutNetOk netP
  rw [ln_impl]
  simp only [Option.bind_some]
  by_cases hl:lnOk n
  rotate_left
  · have e:lnP n=0:=by unfold lnP;rw [if_neg hl]
    rw [dt e,if_neg (fun e=>hl e.1)];rfl
  have e:lnP n=lnV n:=by unfold lnP;rw [if_pos hl]
  have hv:=lnV_le hl
  rw [e,df (show ¬lnV n=0 by omega),cond_false,below_impl _ _ h.2.2 (by omega)]
  simp only [Option.bind_some]
  cases ho:belowP n.2.2.2 (lnV n) with
  | false=>rw [if_neg (by simp)];rfl
  | true=>
  rw [if_pos ⟨hl,rfl⟩,Bool.not_true,cond_false]
  have hl2:=hl.2.1
  have hl3:=hl.2.2.1
  refine loop_all n.2.1.length (fun k=>(k:Int)) _ false _ (fun k hk hok=> ?_) (fun k hk hok=> ?_) ?_
  · have hok:=of_decide_eq_true hok
    obtain ⟨g1,g2⟩:=sq_get hk
    have gl:=h.1.at g2
    obtain ⟨o1,o2⟩:=hok
    try dsimp only
    rw [dt (show (k:Int)<(n.2.1.length:Int) by omega),cond_true,g1]
    simp only [Option.bind_some]
    rw [seq_impl,dt o1,below_impl _ _ gl (by omega),o2,wrap_ok (by omega)];rfl
  · have hok:=of_decide_eq_false hok
    obtain ⟨g1,g2⟩:=sq_get hk
    have gl:=h.1.at g2
    unfold sqOk at hok
    try dsimp only
    rw [dt (show (k:Int)<(n.2.1.length:Int) by omega),cond_true,g1]
    simp only [Option.bind_some]
    rw [seq_impl,below_impl _ _ gl (by omega)]
    simp only [Option.bind_some]
    by_cases o1:seqP (sqAt n.2.1 k)
    · rw [dt o1,Bool.not_true,cond_false]
      cases hb:belowP (sqAt n.2.1 k).2.2 (lnV n) with
      | false=>rfl
      | true=>exact absurd ⟨o1,hb⟩ hok
    · rw [df o1];rfl
  · try dsimp only
    rw [df (by omega),cond_false]
    refine (Option.map_eq_some_iff).2 ⟨_,?_,rfl⟩
    refine loop_all n.2.2.1.length (fun k=>(k:Int)) _ false true (fun k hk hok=> ?_) (fun k hk hok=> ?_) ?_
    · have hok:=of_decide_eq_true hok
      obtain ⟨g1,g2⟩:=lt_get hk
      have gl:=h.2.1.at g2
      obtain ⟨o1,o2⟩:=hok
      have o11:=o1.1
      try dsimp only
      rw [dt (show (k:Int)<(n.2.2.1.length:Int) by omega),cond_true,g1]
      simp only [Option.bind_some]
      rw [df (show ¬4<((ltAt n.2.2.1 k).1.length:Int) by omega),cond_false,fst_impl hl]
      simp only [Option.bind_some]
      rw [wrap_ok (z:=fstP n+(k:Int)) (by omega),below_impl _ _ gl (by omega),o2,tbl_impl,dt o1,wrap_ok (by omega)];rfl
    · have hok:=of_decide_eq_false hok
      obtain ⟨g1,g2⟩:=lt_get hk
      have gl:=h.2.1.at g2
      unfold ltOk at hok
      try dsimp only
      rw [dt (show (k:Int)<(n.2.2.1.length:Int) by omega),cond_true,g1]
      simp only [Option.bind_some]
      by_cases o0:4<((ltAt n.2.2.1 k).1.length:Int)
      · rw [dt o0];rfl
      rw [df o0,cond_false,fst_impl hl]
      simp only [Option.bind_some]
      rw [wrap_ok (z:=fstP n+(k:Int)) (by omega),below_impl _ _ gl (by omega),tbl_impl]
      simp only [Option.bind_some]
      cases hb:belowP (ltAt n.2.2.1 k).1 (fstP n+k) with
      | false=>rfl
      | true=>
        rw [Bool.not_true,cond_false,df (show ¬tblP ((ltAt n.2.2.1 k).1.length:Int) (ltAt n.2.2.1 k).2 from fun e=>hok ⟨e,hb⟩)];rfl
    · try dsimp only
      rw [df (by omega),cond_false];rfl
def inc1 (c:List Int) (x:Int):List Int:=gset c x (wrap .i64 (nsAt c x.toNat+1))
def incL (c xs:List Int):List Int:=xs.foldl inc1 c
theorem inc1_len (c:List Int) (x:Int):(inc1 c x).length=c.length:=by unfold inc1 gset;rw [List.length_set]
theorem incL_len (c xs:List Int):(incL c xs).length=c.length:=by
  induction xs generalizing c with
  | nil=>rfl
  | cons a r ih=>show (incL (inc1 c a) r).length=_;rw [ih,inc1_len]
theorem incL_take (c xs:List Int) (k:Nat) (h:k<xs.length):incL c (xs.take (k+1))=inc1 (incL c (xs.take k)) (nsAt xs k):=by
  unfold incL;rw [take_at h,List.foldl_append];rfl
def incA (c:List Int) (xss:Nat->List Int):Nat->List Int
  | 0=>c
  | k+1=>incL (incA c xss k) (xss k)
theorem incA_len (c:List Int) (xss:Nat->List Int) (k:Nat):(incA c xss k).length=c.length:=by
  induction k with
  | zero=>rfl
  | succ k ih=>show (incL _ _).length=_;rw [incL_len,ih]
def usesP (n:Net):List Int:=incL (incA (incA (List.replicate (lnV n).toNat 0) (fun k=>(ltAt n.2.2.1 k).1) n.2.2.1.length) (fun k=>(sqAt n.2.1 k).2.2) n.2.1.length) n.2.2.2
theorem usesP_len (n:Net):(usesP n).length=(lnV n).toNat:=by
  unfold usesP;rw [incL_len,incA_len,incA_len];simp
theorem gget_ns {c:List Int} {x:Int} (h0:0<=x) (h1:x<(c.length:Int)):gget 0 c x=some (nsAt c x.toNat):=gget_some h0 h1
theorem uses_spec {n:Net} (hb:NetB n) (h:netP n=true):spec_l28Uses n=some (usesP n):=by
  obtain ⟨hl,ho,hs,ht⟩:=netP_all h
  have hv:=lnV_le hl
  unfold spec_l28Uses usesP
  have e:lnP n=lnV n:=by unfold lnP;rw [if_pos hl]
  obtain ⟨N,hN⟩:∃N:Nat,lnV n=(N:Int):=⟨(lnV n).toNat,by omega⟩
  rw [ln_spec,e,hN]
  simp only [Option.bind_some]
  rw [gmake_nat (by omega) (by omega),Int.toNat_natCast]
  simp only [Option.bind_some]
  have hc0:(List.replicate N (0:Int)).length=N:=by simp
  generalize List.replicate N (0:Int)=c0 at*
  have hl2:=hl.2.1
  have hl3:=hl.2.2.1
  have hl4:=hl.2.2.2
  refine loop_upto n.2.2.1.length (fun k=>((k:Int),incA c0 (fun k=>(ltAt n.2.2.1 k).1) k)) (fun k hk=> ?_) ?_
  · obtain ⟨g1,g2⟩:=lt_get hk
    have gl:=hb.2.1.at g2
    have gm:=belowP_mem (ht k hk).2
    have hcl:=incA_len c0 (fun k=>(ltAt n.2.2.1 k).1) k
    have hfl:fstP n+k<lnV n:=by unfold lnV;omega
    try dsimp only
    rw [dt (show (k:Int)<(n.2.2.1.length:Int) by omega),cond_true]
    have ee:incA c0 (fun k=>(ltAt n.2.2.1 k).1) (k+1)=incL (incA c0 (fun k=>(ltAt n.2.2.1 k).1) k) (ltAt n.2.2.1 k).1:=rfl
    rw [ee]
    generalize incA c0 (fun k=>(ltAt n.2.2.1 k).1) k=c at*
    refine loop_upto (ltAt n.2.2.1 k).1.length (fun j=>((j:Int),incL c ((ltAt n.2.2.1 k).1.take j))) (fun j hj=> ?_) ?_
    · have hm:=gm _ (List.getElem_mem hj)
      rw [ns_at hj] at hm
      have hil:=incL_len c ((ltAt n.2.2.1 k).1.take j)
      try dsimp only
      rw [g1]
      simp only [Option.bind_some]
      rw [dt (show (j:Int)<((ltAt n.2.2.1 k).1.length:Int) by omega),cond_true,nsAt_get hj]
      simp only [Option.bind_some]
      rw [gin_some hm.1 (by omega),gget_ns hm.1 (by omega)]
      simp only [Option.bind_some]
      rw [incL_take _ _ _ hj,wrap_ok (z:=(j:Int)+1) (by omega)];rfl
    · try dsimp only
      rw [g1]
      simp only [Option.bind_some]
      rw [df (show ¬((ltAt n.2.2.1 k).1.length:Int)<((ltAt n.2.2.1 k).1.length:Int) by omega),cond_false,List.take_of_length_le (Nat.le_refl _),wrap_ok (by omega)];rfl
  try dsimp only
  rw [df (show ¬(n.2.2.1.length:Int)<(n.2.2.1.length:Int) by omega),cond_false]
  refine (Option.map_eq_some_iff).2 ⟨_,?_,rfl⟩
  have hc1:=incA_len c0 (fun k=>(ltAt n.2.2.1 k).1) n.2.2.1.length
  generalize incA c0 (fun k=>(ltAt n.2.2.1 k).1) n.2.2.1.length=c1 at*
  refine loop_upto n.2.1.length (fun k=>((k:Int),incA c1 (fun k=>(sqAt n.2.1 k).2.2) k)) (fun k hk=> ?_) ?_
  · obtain ⟨g1,g2⟩:=sq_get hk
    have gl:=hb.1.at g2
    have gm:=belowP_mem (hs k hk).2
    have hcl:=incA_len c1 (fun k=>(sqAt n.2.1 k).2.2) k
    try dsimp only
    rw [dt (show (k:Int)<(n.2.1.length:Int) by omega),cond_true]
    have ee:incA c1 (fun k=>(sqAt n.2.1 k).2.2) (k+1)=incL (incA c1 (fun k=>(sqAt n.2.1 k).2.2) k) (sqAt n.2.1 k).2.2:=rfl
    rw [ee]
    generalize incA c1 (fun k=>(sqAt n.2.1 k).2.2) k=c at*
    refine loop_upto (sqAt n.2.1 k).2.2.length (fun j=>((j:Int),incL c ((sqAt n.2.1 k).2.2.take j))) (fun j hj=> ?_) ?_
    · have hm:=gm _ (List.getElem_mem hj)
      rw [ns_at hj] at hm
      have hil:=incL_len c ((sqAt n.2.1 k).2.2.take j)
      try dsimp only
      rw [g1]
      simp only [Option.bind_some]
      rw [dt (show (j:Int)<((sqAt n.2.1 k).2.2.length:Int) by omega),cond_true,nsAt_get hj]
      simp only [Option.bind_some]
      rw [gin_some hm.1 (by omega),gget_ns hm.1 (by omega)]
      simp only [Option.bind_some]
      rw [incL_take _ _ _ hj,wrap_ok (z:=(j:Int)+1) (by omega)];rfl
    · try dsimp only
      rw [g1]
      simp only [Option.bind_some]
      rw [df (show ¬((sqAt n.2.1 k).2.2.length:Int)<((sqAt n.2.1 k).2.2.length:Int) by omega),cond_false,List.take_of_length_le (Nat.le_refl _),wrap_ok (by omega)];rfl
  try dsimp only
  rw [df (show ¬(n.2.1.length:Int)<(n.2.1.length:Int) by omega),cond_false]
  refine (Option.map_eq_some_iff).2 ⟨_,?_,rfl⟩
  have hc2:=incA_len c1 (fun k=>(sqAt n.2.1 k).2.2) n.2.1.length
  generalize incA c1 (fun k=>(sqAt n.2.1 k).2.2) n.2.1.length=c2 at*
  have gm:=belowP_mem ho
  refine loop_upto n.2.2.2.length (fun j=>((j:Int),incL c2 (n.2.2.2.take j))) (fun j hj=> ?_) ?_
  · have hm:=gm _ (List.getElem_mem hj)
    rw [ns_at hj] at hm
    have hil:=incL_len c2 (n.2.2.2.take j)
    try dsimp only
    rw [dt (show (j:Int)<(n.2.2.2.length:Int) by omega),cond_true,nsAt_get hj]
    simp only [Option.bind_some]
    rw [gin_some hm.1 (by omega),gget_ns hm.1 (by omega)]
    simp only [Option.bind_some]
    rw [incL_take _ _ _ hj,wrap_ok (z:=(j:Int)+1) (by omega)];rfl
  · try dsimp only
    rw [df (by omega),cond_false,List.take_of_length_le (Nat.le_refl _)];rfl
theorem uses_impl {n:Net} (hb:NetB n) (h:netP n=true):impl_useCounts n=some (usesP n):=by
  obtain ⟨hl,ho,hs,ht⟩:=netP_all h
  have hv:=lnV_le hl
  unfold impl_useCounts usesP
  obtain ⟨N,hN⟩:∃N:Nat,lnV n=(N:Int):=⟨(lnV n).toNat,by omega⟩
  rw [lnv_impl hl,hN]
  simp only [Option.bind_some]
  rw [gmake_nat (by omega) (by omega),Int.toNat_natCast]
  simp only [Option.bind_some]
  have hc0:(List.replicate N (0:Int)).length=N:=by simp
  generalize List.replicate N (0:Int)=c0 at*
  have hl2:=hl.2.1
  have hl3:=hl.2.2.1
  have hl4:=hl.2.2.2
  refine loop_upto n.2.2.1.length (fun k=>((k:Int),incA c0 (fun k=>(ltAt n.2.2.1 k).1) k)) (fun k hk=> ?_) ?_
  · obtain ⟨g1,g2⟩:=lt_get hk
    have gl:=hb.2.1.at g2
    have gm:=belowP_mem (ht k hk).2
    have hcl:=incA_len c0 (fun k=>(ltAt n.2.2.1 k).1) k
    have hfl:fstP n+k<lnV n:=by unfold lnV;omega
    try dsimp only
    rw [dt (show (k:Int)<(n.2.2.1.length:Int) by omega),cond_true,g1]
    simp only [Option.bind_some]
    have ee:incA c0 (fun k=>(ltAt n.2.2.1 k).1) (k+1)=incL (incA c0 (fun k=>(ltAt n.2.2.1 k).1) k) (ltAt n.2.2.1 k).1:=rfl
    rw [ee]
    generalize incA c0 (fun k=>(ltAt n.2.2.1 k).1) k=c at*
    refine loop_upto (ltAt n.2.2.1 k).1.length (fun j=>((j:Int),incL c ((ltAt n.2.2.1 k).1.take j))) (fun j hj=> ?_) ?_
    · have hm:=gm _ (List.getElem_mem hj)
      rw [ns_at hj] at hm
      have hil:=incL_len c ((ltAt n.2.2.1 k).1.take j)
      try dsimp only
      rw [dt (show (j:Int)<((ltAt n.2.2.1 k).1.length:Int) by omega),cond_true,nsAt_get hj]
      simp only [Option.bind_some]
      rw [gin_some hm.1 (by omega),gget_ns hm.1 (by omega)]
      simp only [Option.bind_some]
      rw [incL_take _ _ _ hj,wrap_ok (z:=(j:Int)+1) (by omega)];rfl
    · try dsimp only
      rw [df (show ¬((ltAt n.2.2.1 k).1.length:Int)<((ltAt n.2.2.1 k).1.length:Int) by omega),cond_false,List.take_of_length_le (Nat.le_refl _),wrap_ok (by omega)];rfl
  try dsimp only
  rw [df (show ¬(n.2.2.1.length:Int)<(n.2.2.1.length:Int) by omega),cond_false]
  refine (Option.map_eq_some_iff).2 ⟨_,?_,rfl⟩
  have hc1:=incA_len c0 (fun k=>(ltAt n.2.2.1 k).1) n.2.2.1.length
  generalize incA c0 (fun k=>(ltAt n.2.2.1 k).1) n.2.2.1.length=c1 at*
  refine loop_upto n.2.1.length (fun k=>((k:Int),incA c1 (fun k=>(sqAt n.2.1 k).2.2) k)) (fun k hk=> ?_) ?_
  · obtain ⟨g1,g2⟩:=sq_get hk
    have gl:=hb.1.at g2
    have gm:=belowP_mem (hs k hk).2
    have hcl:=incA_len c1 (fun k=>(sqAt n.2.1 k).2.2) k
    try dsimp only
    rw [dt (show (k:Int)<(n.2.1.length:Int) by omega),cond_true,g1]
    simp only [Option.bind_some]
    have ee:incA c1 (fun k=>(sqAt n.2.1 k).2.2) (k+1)=incL (incA c1 (fun k=>(sqAt n.2.1 k).2.2) k) (sqAt n.2.1 k).2.2:=rfl
    rw [ee]
    generalize incA c1 (fun k=>(sqAt n.2.1 k).2.2) k=c at*
    refine loop_upto (sqAt n.2.1 k).2.2.length (fun j=>((j:Int),incL c ((sqAt n.2.1 k).2.2.take j))) (fun j hj=> ?_) ?_
    · have hm:=gm _ (List.getElem_mem hj)
      rw [ns_at hj] at hm
      have hil:=incL_len c ((sqAt n.2.1 k).2.2.take j)
      try dsimp only
      rw [dt (show (j:Int)<((sqAt n.2.1 k).2.2.length:Int) by omega),cond_true,nsAt_get hj]
      simp only [Option.bind_some]
      rw [gin_some hm.1 (by omega),gget_ns hm.1 (by omega)]
      simp only [Option.bind_some]
      rw [incL_take _ _ _ hj,wrap_ok (z:=(j:Int)+1) (by omega)];rfl
    · try dsimp only
      rw [df (show ¬((sqAt n.2.1 k).2.2.length:Int)<((sqAt n.2.1 k).2.2.length:Int) by omega),cond_false,List.take_of_length_le (Nat.le_refl _),wrap_ok (by omega)];rfl
  try dsimp only
  rw [df (show ¬(n.2.1.length:Int)<(n.2.1.length:Int) by omega),cond_false]
  refine (Option.map_eq_some_iff).2 ⟨_,?_,rfl⟩
  have hc2:=incA_len c1 (fun k=>(sqAt n.2.1 k).2.2) n.2.1.length
  generalize incA c1 (fun k=>(sqAt n.2.1 k).2.2) n.2.1.length=c2 at*
  have gm:=belowP_mem ho
  refine loop_upto n.2.2.2.length (fun j=>((j:Int),incL c2 (n.2.2.2.take j))) (fun j hj=> ?_) ?_
  · have hm:=gm _ (List.getElem_mem hj)
    rw [ns_at hj] at hm
    have hil:=incL_len c2 (n.2.2.2.take j)
    try dsimp only
    rw [dt (show (j:Int)<(n.2.2.2.length:Int) by omega),cond_true,nsAt_get hj]
    simp only [Option.bind_some]
    rw [gin_some hm.1 (by omega),gget_ns hm.1 (by omega)]
    simp only [Option.bind_some]
    rw [incL_take _ _ _ hj,wrap_ok (z:=(j:Int)+1) (by omega)];rfl
  · try dsimp only
    rw [df (by omega),cond_false,List.take_of_length_le (Nat.le_refl _)];rfl
end Go.Pf
