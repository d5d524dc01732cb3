/-
  Own work. Packings, plainly: every item once.
-/
import Derived.Test.YtjpkedhcbnklmaaBlk
namespace Go.Pf
open Go Go.Pu
set_option linter.unusedVariables false
def BkB (b:Int) (x:Blk):Prop:=(x.2.2.length:Int)<=b
def BksB (bs:List Blk):Prop:=bs.length<=1048576/\∀b∈bs,BkB (1048576 - bs.length) b
theorem BksB.at {bs:List Blk} (h:BksB bs) {b:Blk} (hb:b∈bs):b.2.2.length<=1048576:=by
  have:=h.2 b hb
  unfold BkB at this
  omega
def bkAt (bs:List Blk) (k:Nat):Blk:=bs.getD k (0,(0,[]))
theorem bk_get {bs:List Blk} {k:Nat} (h:k<bs.length):gget ((0,(0,[])):Blk) bs (k:Int)=some (bkAt bs k)/\bkAt bs k∈bs:=by
  have e:bkAt bs k=bs[k]:=by unfold bkAt;rw [List.getD,List.getElem?_eq_getElem h];rfl
  rw [e]
  exact ⟨gget_nat h,List.getElem_mem h⟩
abbrev P4:=List Int×(List Int×(List Int×List Int))
def leT (s:List Int×List Int) (e:Le):List Int×List Int:=(if 0<=e.2 then inc1 s.1 e.2 else s.1,if 0<=e.1 then inc1 s.2 e.1 else s.2)
def leA (ls:List Le) (s:List Int×List Int) (j:Nat):List Int×List Int:=(ls.take j).foldl leT s
theorem leT_len (s:List Int×List Int) (e:Le):(leT s e).1.length=s.1.length/\(leT s e).2.length=s.2.length:=by
  unfold leT
  constructor
  · show (if 0<=e.2 then inc1 s.1 e.2 else s.1).length=_
    split
    · exact inc1_len _ _
    · rfl
  · show (if 0<=e.1 then inc1 s.2 e.1 else s.2).length=_
    split
    · exact inc1_len _ _
    · rfl
theorem leF_len (ls:List Le):∀(s:List Int×List Int),(ls.foldl leT s).1.length=s.1.length/\(ls.foldl leT s).2.length=s.2.length:=by
  induction ls with
  | nil=>exact fun _=>⟨rfl,rfl⟩
  | cons e r ih=>
    intro s
    rw [List.foldl_cons]
    have h1:=ih (leT s e)
    have h2:=leT_len s e
    exact ⟨h1.1.trans h2.1,h1.2.trans h2.2⟩
theorem leA_succ (ls:List Le) (s:List Int×List Int) {j:Nat} (h:j<ls.length):leA ls s (j+1)=leT (leA ls s j) (leAt ls j):=by
  unfold leA
  rw [le_take h,List.foldl_append];rfl
def kindT (b:Blk) (s:P4):List Int×(List Int×List Int):=if b.1=0 then (inc1 s.1 b.2.1,(s.2.1,s.2.2.1)) else if b.1=1 then (s.1,(inc1 s.2.1 b.2.1,s.2.2.1)) else if b.1=2 then (s.1,(s.2.1,inc1 s.2.2.1 b.2.1)) else (s.1,(s.2.1,s.2.2.1))
def pkT (s:P4) (b:Blk):P4:=((kindT b s).1,((kindT b s).2.1,leA b.2.2 ((kindT b s).2.2,s.2.2.2) b.2.2.length))
theorem kindT_len (b:Blk) (s:P4):(kindT b s).1.length=s.1.length/\(kindT b s).2.1.length=s.2.1.length/\(kindT b s).2.2.length=s.2.2.1.length:=by
  unfold kindT
  split
  · exact ⟨inc1_len _ _,rfl,rfl⟩
  split
  · exact ⟨rfl,inc1_len _ _,rfl⟩
  split
  · exact ⟨rfl,rfl,inc1_len _ _⟩
  · exact ⟨rfl,rfl,rfl⟩
def P4Ok (n:Net) (s:P4):Prop:=s.1.length=n.1.toNat/\s.2.1.length=n.2.2.2.length/\s.2.2.1.length=n.2.1.length/\s.2.2.2.length=n.2.2.1.length
theorem pkT_ok {n:Net} {s:P4} (b:Blk) (h:P4Ok n s):P4Ok n (pkT s b):=by
  obtain ⟨h1,h2,h3,h4⟩:=h
  obtain ⟨k1,k2,k3⟩:=kindT_len b s
  have hl:=leF_len (b.2.2.take b.2.2.length) ((kindT b s).2.2,s.2.2.2)
  exact ⟨k1.trans h1,k2.trans h2,(hl.1.trans k3).trans h3,hl.2.trans h4⟩
def pk0 (n:Net):P4:=(List.replicate n.1.toNat 0,(List.replicate n.2.2.2.length 0,(List.replicate n.2.1.length 0,List.replicate n.2.2.1.length 0)))
theorem pk0_ok (n:Net):P4Ok n (pk0 n):=by unfold P4Ok pk0;simp
def pkA (n:Net) (bs:List Blk) (k:Nat):P4:=(bs.take k).foldl pkT (pk0 n)
theorem pkF_ok {n:Net} (bs:List Blk):∀(s:P4),P4Ok n s->P4Ok n (bs.foldl pkT s):=by
  induction bs with
  | nil=>exact fun _ h=>h
  | cons e r ih=>exact fun s h=>ih _ (pkT_ok e h)
theorem pkA_ok (n:Net) (bs:List Blk) (k:Nat):P4Ok n (pkA n bs k):=pkF_ok _ _ (pk0_ok n)
theorem pkA_succ (n:Net) (bs:List Blk) {k:Nat} (h:k<bs.length):pkA n bs (k+1)=pkT (pkA n bs k) (bkAt bs k):=by
  unfold pkA
  have e:bkAt bs k=bs[k]:=by unfold bkAt;rw [List.getD,List.getElem?_eq_getElem h];rfl
  rw [take_succ' bs k h,List.foldl_append,e];rfl
def once (xs:List Int):Bool:=xs.all fun x=>decide (x=1)
def once4 (s:P4):Bool:=once s.1 && (once s.2.1 && (once s.2.2.1 && once s.2.2.2))
def bkOk (n:Net) (b:Blk):Bool:=itemP n b && blk0 n b
def packP (n:Net) (bs:List Blk):Bool:=netP n && (decide (bs.length<=64) && (bs.all (bkOk n) && once4 (pkA n bs bs.length)))
theorem once_eq (xs:List Int):once xs=if (List.range xs.length).all (fun k=>if hk:k<xs.length then decide (xs[k]=1) else true)=true then true else false:=by
  rw [all_range_list xs (fun e=>decide (e=1)) _ (fun k hk=>by rw [dif_pos hk])]
  show once xs=if once xs=true then true else false
  cases once xs<;>rfl
theorem once_loop (xs:List Int) (hl:xs.length<=1048576):(Pu.loop (fun (v18:Int)=>
        let v19:Int:=((xs).length:Int)
        let v20:Bool:=decide (v18<v19)
        bif v20 then (
          (gin (xs).length v18).bind fun _=>
          (gget 0 xs v18).bind fun v22=>
          let v23:Bool:=decide (v22≠1)
          bif v23 then (
            Option.map Sum.inr (
              some false)) else
          let v24:Int:=wrap .i64 (v18+1)
          some (.inl v24)) else
        Option.map Sum.inr (
          some true)) 0)=some (once xs):=by
  rw [once_eq]
  refine loop_all xs.length (fun k=>(k:Int)) _ false true (fun k hk hok=> ?_) (fun k hk hok=> ?_) ?_
  · rw [dif_pos hk] at hok
    have hok:=of_decide_eq_true hok
    try dsimp only
    rw [dt (show (k:Int)<(xs.length:Int) by omega),cond_true,gin_nat hk,gget_nat hk]
    simp only [Option.bind_some]
    rw [df (fun e=>e hok),cond_false,wrap_ok (by omega)];rfl
  · rw [dif_pos hk] at hok
    have hok:=of_decide_eq_false hok
    try dsimp only
    rw [dt (show (k:Int)<(xs.length:Int) by omega),cond_true,gin_nat hk,gget_nat hk]
    simp only [Option.bind_some]
    rw [dt hok];rfl
  · try dsimp only
    rw [df (by omega),cond_false];rfl
theorem once_app (xs ys:List Int):once (xs++ys)=(once xs && once ys):=by unfold once;rw [List.all_append]
def lesIn (n:Net) (ls:List Le):Prop:=∀j,j<ls.length->(leAt ls j).1<(n.2.2.1.length:Int)/\(leAt ls j).2<(n.2.1.length:Int)
theorem bk_les {n:Net} {b:Blk} (h:bkOk n b=true):lesIn n b.2.2:=by
  unfold bkOk at h
  rw [Bool.and_eq_true] at h
  obtain ⟨h1,h2⟩:=h
  intro j hj
  by_cases k3:b.1=3
  · have:=(lesP_at (item3 h1 (by omega) (by omega) (by omega)).2 hj).1
    omega
  · unfold blk0 at h2
    rw [if_neg k3] at h2
    have:=of_decide_eq_true h2
    omega
theorem le_loop_spec {n:Net} {ls:List Le} (hl:ls.length<=1048576) (hi:lesIn n ls) (s:List Int×List Int) (h1:s.1.length=n.2.1.length) (h2:s.2.length=n.2.2.1.length) (i:Int) (p o:List Int):
    Pu.loop (fun (v19:(Int×(List Int×List Int)))=>
          let v20:Int:=((ls).length:Int)
          let v21:Bool:=decide (v19.1<v20)
          bif v21 then (
            (gget (0,0) ls v19.1).bind fun v22=>
            let v23:Bool:=decide (0<=v22.1)
            bif v23 then (
              (gget (0,0) ls v19.1).bind fun v24=>
              (gin (v19.2.2).length v24.1).bind fun _=>
              (gget 0 v19.2.2 v24.1).bind fun v26=>
              let v27:Int:=wrap .i64 (v26+1)
              (gin (v19.2.2).length v24.1).bind fun _=>
              (gget 0 v19.2.2 v24.1).bind fun v29=>
              let v30:Int:=v27
              let v31:List Int:=gset v19.2.2 v24.1 v30
              (gget (0,0) ls v19.1).bind fun v32=>
              let v33:Bool:=decide (0<=v32.2)
              bif v33 then (
                (gget (0,0) ls v19.1).bind fun v34=>
                (gin (v19.2.1).length v34.2).bind fun _=>
                (gget 0 v19.2.1 v34.2).bind fun v36=>
                let v37:Int:=wrap .i64 (v36+1)
                (gin (v19.2.1).length v34.2).bind fun _=>
                (gget 0 v19.2.1 v34.2).bind fun v39=>
                let v40:Int:=v37
                let v41:List Int:=gset v19.2.1 v34.2 v40
                let v42:Int:=wrap .i64 (v19.1+1)
                some (.inl (v42,(v41,v31)))) else
              let v34:Int:=wrap .i64 (v19.1+1)
              some (.inl (v34,(v19.2.1,v31)))) else
            (gget (0,0) ls v19.1).bind fun v24=>
            let v25:Bool:=decide (0<=v24.2)
            bif v25 then (
              (gget (0,0) ls v19.1).bind fun v26=>
              (gin (v19.2.1).length v26.2).bind fun _=>
              (gget 0 v19.2.1 v26.2).bind fun v28=>
              let v29:Int:=wrap .i64 (v28+1)
              (gin (v19.2.1).length v26.2).bind fun _=>
              (gget 0 v19.2.1 v26.2).bind fun v31=>
              let v32:Int:=v29
              let v33:List Int:=gset v19.2.1 v26.2 v32
              let v34:Int:=wrap .i64 (v19.1+1)
              some (.inl (v34,(v33,v19.2.2)))) else
            let v26:Int:=wrap .i64 (v19.1+1)
            some (.inl (v26,v19.2))) else
          Option.map Sum.inr (
            let v22:Int:=wrap .i64 (i+1)
            some (.inl (v22,(p,(o,v19.2)))))) (0,s)=(some (.inl (wrap .i64 (i+1),(p,(o,leA ls s ls.length)))):Option ((Int×P4)⊕Bool)):=by
  refine loop_upto ls.length (fun j=>((j:Int),leA ls s j)) (fun j hj=> ?_) ?_
  · obtain ⟨q1,q2⟩:=leF_len (ls.take j) s
    change (leA ls s j).1.length=_ at q1
    change (leA ls s j).2.length=_ at q2
    have hij:=hi j hj
    rw [leA_succ ls s hj]
    generalize leA ls s j=t at*
    try dsimp only
    rw [dt (show (j:Int)<(ls.length:Int) by omega),cond_true,le_get hj]
    simp only [Option.bind_some]
    generalize leAt ls j=e at*
    unfold leT
    by_cases c1:0<=e.1
    · rw [dt c1,cond_true,gin_some c1 (by omega),gget_ns c1 (by omega),if_pos c1]
      simp only [Option.bind_some]
      by_cases c2:0<=e.2
      · rw [dt c2,cond_true,gin_some c2 (by omega),gget_ns c2 (by omega),if_pos c2]
        simp only [Option.bind_some]
        rw [wrap_ok (z:=(j:Int)+1) (by omega)];rfl
      · rw [df c2,cond_false,if_neg c2,wrap_ok (z:=(j:Int)+1) (by omega)];rfl
    · rw [df c1,cond_false,if_neg c1]
      by_cases c2:0<=e.2
      · rw [dt c2,cond_true,gin_some c2 (by omega),gget_ns c2 (by omega),if_pos c2]
        simp only [Option.bind_some]
        rw [wrap_ok (z:=(j:Int)+1) (by omega)];rfl
      · rw [df c2,cond_false,if_neg c2,wrap_ok (z:=(j:Int)+1) (by omega)];rfl
  · try dsimp only
    rw [df (by omega),cond_false];rfl
theorem bks_eq (n:Net) (bs:List Blk) (x:Bool):(bs.all (bkOk n) && x)=if (List.range bs.length).all (fun k=>bkOk n (bkAt bs k))=true then x else false:=by
  rw [all_range_list bs (bkOk n) _ (fun k hk=>by
    show bkOk n (bkAt bs k)=_
    unfold bkAt;rw [List.getD,List.getElem?_eq_getElem hk];rfl)]
  cases bs.all (bkOk n)<;>rfl
theorem bk_item {n:Net} {b:Blk} (h:bkOk n b=true):(b.1=0->0<=b.2.1/\b.2.1<n.1)/\(b.1=1->0<=b.2.1/\b.2.1<(n.2.2.2.length:Int))/\(b.1=2->0<=b.2.1/\b.2.1<(n.2.1.length:Int)):=by
  unfold bkOk at h
  rw [Bool.and_eq_true] at h
  have h1:=h.1
  unfold itemP at h1
  refine ⟨fun e=> ?_,fun e=> ?_,fun e=> ?_⟩
  · rw [if_pos e] at h1;exact of_decide_eq_true h1
  · rw [if_neg (by omega),if_pos e] at h1;exact of_decide_eq_true h1
  · rw [if_neg (by omega),if_neg (by omega),if_pos e] at h1;exact of_decide_eq_true h1
theorem join_in {α β:Type} (a:α) (k:α->Option β):joinO (some (.inl a)) k=k a:=rfl
theorem pack_spec (n:Net) (bs:List Blk) (hb:NetB n) (hs:BksB bs):spec_PackOk (n,bs)=some (packP n bs):=by
  have hbl:=hs.1
  unfold spec_PackOk packP
  try dsimp only
  rw [net_spec n hb]
  simp only [Option.bind_some]
  cases hn:netP n with
  | false=>rfl
  | true=>
    obtain ⟨hln,_⟩:=netP_all hn
    obtain ⟨l1,l2,l3,l4⟩:=hln
    rw [Bool.not_true,cond_false,Bool.true_and]
    by_cases c:64<(bs.length:Int)
    · rw [dt c,df (show ¬bs.length<=64 by omega)];rfl
    have m1:gmake 8 (0:Int) n.1=some (List.replicate n.1.toNat 0):=by
      have:=gmake_nat (b:=8) (d:=(0:Int)) (n:=n.1.toNat) (by omega) (by omega)
      rw [show ((n.1.toNat:Nat):Int)=n.1 by omega] at this
      exact this
    rw [df c,cond_false,dt (show bs.length<=64 by omega),Bool.true_and,m1,gmake_nat (b:=8) (d:=(0:Int)) (n:=n.2.2.2.length) (by omega) (by omega),gmake_nat (b:=8) (d:=(0:Int)) (n:=n.2.1.length) (by omega) (by omega),gmake_nat (b:=8) (d:=(0:Int)) (n:=n.2.2.1.length) (by omega) (by omega)]
    simp only [Option.bind_some]
    rw [bks_eq]
    refine loop_all bs.length (fun k=>((k:Int),pkA n bs k)) _ false _ (fun k hk hok=> ?_) (fun k hk hok=> ?_) ?_
    · obtain ⟨g1,g2⟩:=bk_get hk
      have hlen:=hs.at g2
      obtain ⟨q1,q2,q3,q4⟩:=pkA_ok n bs k
      have hin:=bk_les hok
      obtain ⟨i0,i1,i2⟩:=bk_item hok
      rw [pkA_succ n bs hk]
      generalize pkA n bs k=s at*
      generalize bkAt bs k=b at*
      have hok' :blkP n b=true:=by unfold blkP;rw [hn,Bool.true_and];exact hok
      try dsimp only
      rw [dt (show (k:Int)<(bs.length:Int) by omega),cond_true,g1]
      simp only [Option.bind_some]
      rw [blk_spec n b hb hlen]
      simp only [Option.bind_some]
      have fin:∀p o q:List Int,kindT b s=(p,(o,q))->q.length=n.2.1.length->(some (Sum.inl (wrap .i64 ((k:Int)+1),(p,(o,leA b.2.2 (q,s.2.2.2) b.2.2.length)))):Option ((Int×P4)⊕Bool))=some (Sum.inl (((k+1:Nat):Int),pkT s b)):=by
        intro p o q e _
        unfold pkT
        rw [e,wrap_ok (by omega)];rfl
      rw [hok',Bool.not_true,cond_false]
      by_cases k0:b.1=0
      · have:=i0 k0
        rw [dt k0,cond_true,gin_some (by omega) (by omega),gget_ns (by omega) (by omega)]
        simp only [Option.bind_some]
        rw [join_in]
        refine (le_loop_spec hlen hin (s.2.2.1,s.2.2.2) q3 q4 (k:Int) _ _).trans (fin _ _ _ ?_ q3)
        unfold kindT;rw [if_pos k0];rfl
      rw [df k0,cond_false]
      by_cases k1:b.1=1
      · have:=i1 k1
        rw [dt k1,cond_true,gin_some (by omega) (by omega),gget_ns (by omega) (by omega)]
        simp only [Option.bind_some]
        rw [join_in]
        refine (le_loop_spec hlen hin (s.2.2.1,s.2.2.2) q3 q4 (k:Int) _ _).trans (fin _ _ _ ?_ q3)
        unfold kindT;rw [if_neg k0,if_pos k1];rfl
      rw [df k1,cond_false]
      by_cases k2:b.1=2
      · have:=i2 k2
        rw [dt k2,cond_true,gin_some (by omega) (by omega),gget_ns (by omega) (by omega)]
        simp only [Option.bind_some]
        rw [join_in]
        refine (le_loop_spec hlen hin (inc1 s.2.2.1 b.2.1,s.2.2.2) ((inc1_len _ _).trans q3) q4 (k:Int) _ _).trans (fin _ _ _ ?_ ((inc1_len _ _).trans q3))
        unfold kindT;rw [if_neg k0,if_neg k1,if_pos k2]
      rw [df k2,cond_false,join_in]
      refine (le_loop_spec hlen hin (s.2.2.1,s.2.2.2) q3 q4 (k:Int) _ _).trans (fin _ _ _ ?_ q3)
      unfold kindT;rw [if_neg k0,if_neg k1,if_neg k2]
    · obtain ⟨g1,g2⟩:=bk_get hk
      have hlen:=hs.at g2
      have hok' :blkP n (bkAt bs k)=false:=by unfold blkP;rw [hn,Bool.true_and];exact hok
      try dsimp only
      rw [dt (show (k:Int)<(bs.length:Int) by omega),cond_true,g1]
      simp only [Option.bind_some]
      rw [blk_spec n _ hb hlen]
      simp only [Option.bind_some]
      rw [hok'];rfl
    · obtain ⟨q1,q2,q3,q4⟩:=pkA_ok n bs bs.length
      unfold once4
      generalize pkA n bs bs.length=s at*
      try dsimp only
      rw [df (show ¬(bs.length:Int)<(bs.length:Int) by omega),cond_false,gapp_ok (by omega)]
      simp only [Option.bind_some]
      rw [gapp_ok (by rw [List.length_append];omega)]
      simp only [Option.bind_some]
      rw [gapp_ok (by rw [List.length_append,List.length_append];omega)]
      simp only [Option.bind_some]
      refine (congrArg (Option.map Sum.inr) (once_loop (((s.1++s.2.1)++s.2.2.1)++s.2.2.2) (by simp only [List.length_append];omega))).trans ?_
      rw [once_app,once_app,once_app,Bool.and_assoc,Bool.and_assoc];rfl
end Go.Pf
