/-
  Own work. Draws, plainly: a drawn device, blocks, connections and a legal placement.
-/
import Derived.Test.YtjpkedhcbnklmaaNti
import Derived.Test.YtjpkedhcbnklmaaLawPlaceCost
namespace Go.Pf
open Go Go.Pu
set_option linter.unusedVariables false
theorem pinN_w {n:Net} {b:Blk} (hn:netP n=true) (h:bkOk n b=true):(pinN n b).length<=if b.1=3 then 5 else 4:=by
  obtain ⟨hln,_,hs,_⟩:=netP_all hn
  have hi:=bkOk_item h
  unfold bkOk at h
  rw [Bool.and_eq_true] at h
  have h2:=h.2
  unfold blk0 at h2
  unfold itemP at hi
  unfold pinN
  by_cases k0:b.1=0
  · rw [if_pos k0];simp
  rw [if_neg k0]
  by_cases k1:b.1=1
  · rw [if_pos k1];simp;split<;>omega
  rw [if_neg k1]
  by_cases k2:b.1=2
  · rw [if_pos k2,if_neg (by omega)]
    rw [if_neg k0,if_neg k1,if_pos k2] at hi
    have hi:=of_decide_eq_true hi
    rw [if_neg (by omega)] at h2
    have h3:=(of_decide_eq_true h2).2 k2
    have h4:=(hs b.2.1.toNat (by omega)).1
    rcases h4 with q | q
    · omega
    · omega
  rw [if_neg k2]
  by_cases k3:b.1=3
  · rw [if_pos k3] at h2 ⊢
    exact (of_decide_eq_true h2).2.2
  · rw [if_neg k0,if_neg k1,if_neg k2,if_neg k3] at hi
    cases hi
theorem gAt_ps {n:Net} {bs:List Blk} {p:Nat} (hp:p<bs.length):gAt (psA n bs bs.length) p=pinN n (bkAt bs p):=by
  have e:bkAt bs p=bs[p]:=by unfold bkAt;rw [List.getD,List.getElem?_eq_getElem hp];rfl
  unfold gAt psA
  rw [List.take_length,List.getD,List.getElem?_map,List.getElem?_eq_getElem hp,e];rfl
theorem skA_w {n:Net} {bs:List Blk} (h:packP n bs=true) (x:Int):∀k,k<=bs.length->(skA x (psA n bs bs.length) k).length<=4*k+((bs.take k).map (·.1)).count 3
  | 0,_=>by simp [skA]
  | k+1,hk=>by
    have ih:=skA_w h x k (by omega)
    obtain ⟨hn,_,hb⟩:=packP_all h
    have h1:=mtA_len x (k:Int) (gAt (psA n bs bs.length) k) (skA x (psA n bs bs.length) k) (gAt (psA n bs bs.length) k).length
    have h2:=pinN_w hn (hb k (by omega))
    show (mtA x (k:Int) (gAt (psA n bs bs.length) k) (skA x (psA n bs bs.length) k) (gAt (psA n bs bs.length) k).length).length<=_
    rw [gAt_ps (show k<bs.length by omega)] at h1 ⊢
    have e:bkAt bs k=bs[k]:=by unfold bkAt;rw [List.getD,List.getElem?_eq_getElem (by omega)];rfl
    rw [take_succ' bs k (by omega),List.map_append,List.count_append]
    rw [e] at h1 h2 ⊢
    have e3:List.count 3 (List.map (fun b:Blk=>b.1) [bs[k]])=if bs[k].1=3 then 1 else 0:=by
      by_cases c:bs[k].1=3
      · simp [c]
      · rw [if_neg c];simp [c]
    rw [e3]
    by_cases c:bs[k].1=3
    · rw [if_pos c] at h2 ⊢;omega
    · rw [if_neg c] at h2 ⊢;omega
theorem mtA_in {x p:Int} {xs:List Int} {acc:List Pin} {Q:Pin->Prop} (ha:∀y∈acc,Q y) (hq:∀j:Nat,j<xs.length->Q (p,(j:Int))):∀k,k<=xs.length->∀y∈mtA x p xs acc k,Q y
  | 0,_=>ha
  | k+1,hk=>by
    have ih:=mtA_in (x:=x) ha hq k (by omega)
    show ∀y∈(if nsAt xs k=x then mtA x p xs acc k++[(p,(k:Int))] else mtA x p xs acc k),Q y
    split
    · intro y hy
      rcases List.mem_append.1 hy with q | q
      · exact ih y q
      · rw [List.mem_singleton] at q;rw [q];exact hq k (by omega)
    · exact ih
theorem skA_in {n:Net} {bs:List Blk} (h:packP n bs=true) (x:Int):∀k,k<=bs.length->∀y∈skA x (psA n bs bs.length) k,pinP (bs.length:Int) y
  | 0,_=>fun y hy=>by cases hy
  | k+1,hk=>by
    obtain ⟨hn,_,hb⟩:=packP_all h
    have h2:=pinN_w hn (hb k (by omega))
    refine mtA_in (skA_in h x k (by omega)) (fun j hj=> ?_) _ (Nat.le_refl _)
    rw [gAt_ps (show k<bs.length by omega)] at hj
    have:(if (bkAt bs k).1=3 then 5 else 4)<=5:=by split<;>omega
    exact ⟨⟨by simp only;omega,by simp only;omega⟩,by simp only;omega,by simp only;omega⟩
theorem cnA_all {PS:List (List Int)} {b:Int} {os:List Int} {acc:List Conn} {Q:Conn->Prop} (ha:∀c∈acc,Q c) (hq:∀j,j<os.length->0<(skA (nsAt os j) PS PS.length).length->Q (nsAt os j,((b,(j:Int)),skA (nsAt os j) PS PS.length))):∀k,k<=os.length->∀c∈cnA PS b os acc k,Q c
  | 0,_=>ha
  | k+1,hk=>by
    have ih:=cnA_all (PS:=PS) (b:=b) ha hq k (by omega)
    show ∀c∈(if 0<((skA (nsAt os k) PS PS.length).length:Int) then cnA PS b os acc k++[(nsAt os k,((b,(k:Int)),skA (nsAt os k) PS PS.length))] else cnA PS b os acc k),Q c
    split
    · intro c hc
      rcases List.mem_append.1 hc with q | q
      · exact ih c q
      · rw [List.mem_singleton] at q;rw [q];exact hq k (by omega) (by omega)
    · exact ih
theorem ctA_all {n:Net} {bs:List Blk} {PS:List (List Int)} {Q:Conn->Prop} (hq:∀k j,k<bs.length->j<(outN n (bkAt bs k)).length->0<(skA (nsAt (outN n (bkAt bs k)) j) PS PS.length).length->Q (nsAt (outN n (bkAt bs k)) j,(((k:Int),(j:Int)),skA (nsAt (outN n (bkAt bs k)) j) PS PS.length))):∀k,k<=bs.length->∀c∈ctA n bs PS k,Q c
  | 0,_=>fun c hc=>by cases hc
  | k+1,hk=>cnA_all (ctA_all hq k (by omega)) (fun j hj=>hq k j (by omega) hj) _ (Nat.le_refl _)
theorem connsP_cns {n:Net} {bs:List Blk} (hl:bs.length<=25) (h3:(bs.map (·.1)).count 3<=20):cnsP (bs.length:Int) (connsP n bs)=true:=by
  unfold connsP
  split
  rotate_left
  · unfold cnsP
    rw [dt ⟨⟨by omega,by omega⟩,by simp⟩];rfl
  rename_i h
  have h1:=ctA_len h (psA n bs bs.length) bs.length (Nat.le_refl _)
  unfold cnsP
  rw [dt ⟨⟨by omega,by omega⟩,by omega⟩,Bool.true_and,List.all_eq_true]
  refine ctA_all (fun k j hk hj hpos=> ?_) _ (Nat.le_refl _)
  have hw:=skA_w h (nsAt (outN n (bkAt bs k)) j) bs.length (Nat.le_refl _)
  have hin:=skA_in h (nsAt (outN n (bkAt bs k)) j) bs.length (Nat.le_refl _)
  rw [List.take_length] at hw
  rw [psA_len n bs (Nat.le_refl _)] at hpos ⊢
  have ho:=outN_len ((packP_all h).2.2 k hk)
  unfold cnP
  rw [dt ⟨⟨by simp only;omega,by simp only;omega⟩,⟨by simp only;omega,by simp only;omega⟩,by simp only;omega,by simp only;omega⟩,Bool.true_and,List.all_eq_true]
  exact fun p hp=>decide_eq_true (hin p hp)
theorem device_tot {b:List Int} {c:Cur} (hb:CdOk b) (hc:CurOk b c):Tot (spec_l26Device (b,c)) (fun r=>DOk r.1/\CurOk b r.2):=by
  unfold spec_l26Device
  dsimp only
  refine Tot.below hb hc fun x1 c1 k1 _ q1=> ?_
  have q1:=q1 (by omega)
  rw [wrap_ok (z:=3+x1) (by omega)]
  refine Tot.below hb k1 fun x2 c2 k2 _ q2=> ?_
  have q2:=q2 (by omega)
  rw [wrap_ok (z:=3+x2) (by omega)]
  refine Tot.below hb k2 fun x3 c3 k3 _ q3=> ?_
  have q3:=q3 (by omega)
  rw [wrap_ok (z:=1+x3) (by omega)]
  refine Tot.once hb k3 fun x4 c4 k4=> ?_
  dsimp only
  refine Tot.ite (fun _=> ?_) (fun _=>Tot.ret ⟨⟨by simp only;omega,by simp only;omega,by simp only;omega,.inl rfl⟩,k4⟩)
  rw [wrap_ok (z:=3+x1 - 2) (by omega)]
  refine Tot.below hb k4 fun x5 c5 k5 _ q5=> ?_
  have q5:=q5 (by omega)
  rw [wrap_ok (z:=1+x5) (by omega)]
  exact Tot.ret ⟨⟨by simp only;omega,by simp only;omega,by simp only;omega,.inr (by simp only;omega)⟩,k5⟩
def TDev (d:Dev):Prop:=(d.1=4\/d.1=5)/\(d.2.1=4\/d.2.1=5)/\(2<=d.2.2.1/\d.2.2.1<=4)/\d.2.2.2=1
theorem TDev.ok {d:Dev} (h:TDev d):DOk d:=by
  obtain ⟨h1,h2,h3,h4⟩:=h
  exact ⟨by omega,by omega,by omega,.inr (by omega)⟩
theorem tiles20 {d:Dev} (h:TDev d):(tilesP d 1).length<=20:=by
  obtain ⟨W,H,T,R⟩:=d
  obtain ⟨h1,h2,h3,h4⟩:=h
  simp only at h1 h2 h3 h4
  have h5:T=2\/T=3\/T=4:=by omega
  subst h4
  rcases h1 with rfl | rfl<;>rcases h2 with rfl | rfl<;>rcases h5 with rfl | rfl | rfl<;>decide+kernel
theorem fit01 {d:Dev} (h:DOk d):Fit d [0,1]:=fun k=>by
  have e:([0,1]:List Int).map bt=[0,0]:=by simp [bt]
  rw [e]
  have hm:9<=d.1*d.2.1:=Int.le_trans (by decide) (Int.mul_le_mul h.1.1 h.2.1.1 (by omega) (by have:=h.1.1;omega))
  by_cases hk:k=0
  · subst hk
    have hw:=h.1
    have t0:(0:Int)∈tilesP d 0:=by
      unfold tilesP;rw [if_pos h,mem_tilesTo]
      exact ⟨by omega,by unfold tkp;rw [if_pos];left;simp⟩
    have t1:(1:Int)∈tilesP d 0:=by
      unfold tilesP;rw [if_pos h,mem_tilesTo]
      refine ⟨by omega,?_⟩
      unfold tkp
      rw [if_pos]
      right;left
      exact Int.ediv_eq_zero_of_lt (by omega) (by omega)
    have:=nodup_sub [0,1] (tilesP d 0) (by decide) (fun x hx=>by
      rcases List.mem_cons.1 hx with q | q
      · rw [q];exact t0
      · rw [List.mem_singleton] at q;rw [q];exact t1)
    simpa using this
  · have:List.count k ([0,0]:List Int)=0:=by
      rw [List.count_eq_zero]
      simp [hk]
    omega
theorem nb_sample:spec_SampleNet ()=some (2,([(0,(1,[9]))],([(2,6)],[8,7]))):=rfl
theorem nb_sampleN:NB (2,([(0,(1,[9]))],([(2,6)],[8,7]))):=by
  refine ⟨by simp,fun s hs=> ?_,by simp,fun s hs=> ?_,by simp,fun s hs=> ?_⟩
  · simp only [List.mem_singleton] at hs;subst hs
    exact ⟨by simp,fun x hx=>by simp only [List.mem_singleton] at hx;subst hx;unfold I64;omega⟩
  · simp only [List.mem_singleton] at hs;subst hs
    unfold I64;simp only;omega
  · simp only [List.mem_cons,List.not_mem_nil,or_false] at hs
    rcases hs with rfl | rfl<;>(unfold I64;omega)
def TaskQ (b:List Int) (r:Dev×(Net×(List Blk×Cur))):Prop:=TDev r.1/\NetB r.2.1/\r.2.2.1.length<=64/\B2 r.2.2.1/\Fit r.1 (r.2.2.1.map (·.1))/\CurOk b r.2.2.2
theorem fit_nil (d:Dev):Fit d []:=fun k=>by simp
theorem task_tot {b:List Int} {c:Cur} (hb:CdOk b) (hc:CurOk b c):Tot (spec_l29Task (b,c)) (TaskQ b):=by
  unfold spec_l29Task
  dsimp only
  refine Tot.below hb hc fun x1 c1 k1 _ q1=> ?_
  have q1:=q1 (by omega)
  rw [wrap_ok (z:=4+x1) (by omega)]
  refine Tot.below hb k1 fun x2 c2 k2 _ q2=> ?_
  have q2:=q2 (by omega)
  rw [wrap_ok (z:=4+x2) (by omega)]
  refine Tot.below hb k2 fun x3 c3 k3 _ q3=> ?_
  have q3:=q3 (by omega)
  rw [wrap_ok (z:=2+x3) (by omega)]
  have hd:TDev (4+x1,(4+x2,(2+x3,1))):=⟨by simp only;omega,by simp only;omega,by simp only;omega,rfl⟩
  generalize 4+x1=W at*
  generalize 4+x2=H at*
  generalize 2+x3=T at*
  refine Tot.lp (fun s=>(0<=s.1/\s.1<=4)/\CurOk b s.2) (fun s=>(4 - s.1).toNat) ⟨⟨by simp only;omega,by simp only;omega⟩,k3⟩ (fun s hs=> ?_)
  obtain ⟨i,cu⟩:=s
  obtain ⟨⟨i0,i1⟩,hcu⟩:=hs
  simp only at i0 i1 hcu
  dsimp only
  refine Tot.dite (fun h1=> ?_) (fun h1=>Tot.exit (Tot.ret ⟨hd,lb_empty.netB,by simp,(fun x hx=>by cases hx),fit_nil _,hcu⟩))
  refine Tot.bind (sized_tot hb hcu (by omega) (by omega) (by omega)) fun s9 h9=> ?_
  obtain ⟨h9n,h9c⟩:=h9
  refine Tot.bind (hash_tot h9n) fun n10 h10=> ?_
  refine Tot.join (A:=NB) ?_ fun n hn=> ?_
  · refine Tot.dite (fun _=> ?_) (fun _=>Tot.next h10)
    rw [nb_sample]
    exact Tot.next nb_sampleN
  refine Tot.join (A:=fun v=>LB (v.2.2.2,(v.1,(v.2.1,v.2.2.1)))) ?_ fun v12 h12=> ?_
  · refine Tot.bind (depthMap_tot hn) fun m hm=> ?_
    refine Tot.bind (toLuts_tot hn hm.2) fun l hl=> ?_
    exact Tot.next hl
  have hN:=h12.netB
  generalize ((v12.2.2.2,(v12.1,(v12.2.1,v12.2.2.1))):Net)=N at*
  obtain ⟨o,_,he,ho,h2⟩:=pack_run N hN
  refine Tot.bindEq he ?_
  refine Tot.join (A:=fun v=>CurOk b v.2/\(v.1=true->Fit (W,(H,(T,1))) (o.1.map (·.1)))) ?_ fun v14 h14=> ?_
  · refine Tot.ite (fun _=> ?_) (fun _=>Tot.next ⟨h9c,fun e=>by cases e⟩)
    refine Tot.bindEq (kinds_tot (by omega)) ?_
    refine Tot.bind (random_tot hb h9c hd.ok (by rw [List.length_map];omega)) fun r hr=> ?_
    obtain ⟨⟨hr1,_⟩,hr2⟩:=hr
    refine Tot.next ⟨hr2,fun e=> ?_⟩
    have e:=of_decide_eq_true e
    rcases hr1 with q | q
    · rw [q] at e
      have:o.1=[]:=List.length_eq_zero_iff.1 (by simp at e;omega)
      rw [this];exact fit_nil _
    · exact q.fit hd.ok
  obtain ⟨hc14,hf14⟩:=h14
  refine Tot.ite (fun e=>Tot.exit (Tot.ret ⟨hd,hN,ho,h2,hf14 e,hc14⟩)) (fun _=> ?_)
  rw [wrap_ok (z:=i+1) (by omega)]
  exact Tot.next ⟨⟨⟨by simp only;omega,by simp only;omega⟩,hc14⟩,by simp only;omega⟩
structure PD (d:Dev) (ks:List Int) (cs:List Conn) (ps:List Int):Prop where
  dev:DOk d
  pl:Pl d ks ps
  len:ks.length<=64
  cns:cnsP (ks.length:Int) cs=true
theorem PD.place {d:Dev} {ks:List Int} {cs:List Conn} {ps:List Int} (h:PD d ks cs ps):placeP d ks ps=true:=h.pl.place h.dev h.len
theorem count3_le (ks:List Int):ks.count 3<=(ks.map bt).count 1:=by
  induction ks with
  | nil=>simp
  | cons k ks ih=>
    rw [List.map_cons,List.count_cons,List.count_cons]
    by_cases h:k=3
    · subst h
      have:bt 3=1:=by simp [bt]
      simp [this,ih]
    · simp [h]
      omega
theorem drawn_tot {b:List Int} {c:Cur} (hb:CdOk b) (hc:CurOk b c):Tot (spec_l29Drawn (b,c)) (fun r=>PD r.1 r.2.1 r.2.2.1 r.2.2.2.1/\CurOk b r.2.2.2.2):=by
  unfold spec_l29Drawn
  dsimp only
  refine Tot.once hb hc fun x1 c1 k1=> ?_
  dsimp only
  refine Tot.ite (fun _=> ?_) (fun _=> ?_)
  · refine Tot.bind (task_tot hb k1) fun v2 h2=> ?_
    obtain ⟨hd,hN,hl,hB,hf,hcu⟩:=h2
    refine Tot.bindEq (kinds_tot (by omega)) ?_
    refine Tot.bindEq (conns_spec _ _ hN ⟨by omega,fun x hx=>by have:=hB x hx;unfold BkB;omega⟩) ?_
    refine Tot.bind (random_tot hb hcu hd.ok (by rw [List.length_map];omega)) fun r hr=> ?_
    obtain ⟨⟨_,hr1⟩,hr2⟩:=hr
    have hp:=hr1 hf
    have h36:=hp.le36 hd.ok
    have hlen:=hp.len
    rw [List.length_map] at hlen
    have hA:v2.1.1*v2.1.2.1<=5*5:=Int.mul_le_mul (by rcases hd.1 with q | q<;>omega) (by rcases hd.2.1 with q | q<;>omega) (by rcases hd.2.1 with q | q<;>omega) (by omega)
    have h3:=count3_le (v2.2.2.1.map (·.1))
    have hf1:=hf 1
    have h20:=tiles20 hd
    refine Tot.ret ⟨⟨hd.ok,hp,by rw [List.length_map];omega,?_⟩,hr2⟩
    rw [List.length_map]
    exact connsP_cns (by omega) (Nat.le_trans (count3_le _) (Nat.le_trans (hf 1) (tiles20 hd)))
  refine Tot.bind (device_tot hb k1) fun v2 h2=> ?_
  obtain ⟨hd,hc2⟩:=h2
  refine Tot.below hb hc2 fun x3 c3 k3 _ q3=> ?_
  have q3:=q3 (by omega)
  rw [wrap_ok (z:=1+x3) (by omega)]
  refine Tot.lp (fun s=>(0<=s.1/\s.1+(s.2.2.2.length:Int)=1+x3)/\CurOk b (s.2.1,s.2.2.1)) (fun s=>s.1.toNat) ⟨⟨by simp only;omega,by simp⟩,k3⟩ (fun s hs=> ?_)
  obtain ⟨i,p1,p2,ks⟩:=s
  obtain ⟨⟨i0,i1⟩,hcu⟩:=hs
  simp only at i0 i1 hcu
  dsimp only
  refine Tot.dite (fun h1=> ?_) (fun h1=>Tot.exit ?_)
  · refine Tot.pick hb hcu (by simp) fun x c' hc' _=> ?_
    refine Tot.app (by simp only [List.length_cons,List.length_nil];omega) (by omega) ?_
    rw [wrap_ok (z:=i - 1) (by omega)]
    exact Tot.next ⟨⟨⟨by simp only;omega,by simp only [List.length_append,List.length_cons,List.length_nil];omega⟩,hc'⟩,by simp only;omega⟩
  refine Tot.join (A:=fun ks' :List Int=>1<=ks'.length/\ks'.length<=5) ?_ fun ks1 hk1=> ?_
  · refine Tot.bindEq (tiles_spec _ _) ?_
    exact Tot.dite (fun _=>Tot.next ⟨by simp,by simp⟩) (fun _=>Tot.next ⟨by omega,by omega⟩)
  refine Tot.bind (random_tot hb hcu hd (by omega)) fun r hr=> ?_
  obtain ⟨⟨hr1,_⟩,hr2⟩:=hr
  refine Tot.join (A:=fun v=>CurOk b (v.1,v.2.1)/\Pl v2.1 v.2.2.1 v.2.2.2/\1<=v.2.2.1.length/\v.2.2.1.length<=5) ?_ fun v9 h9=> ?_
  · refine Tot.dite (fun _=> ?_) (fun h0=>Tot.next ⟨hr2,?_,hk1⟩)
    · refine Tot.bind (random_tot hb hr2 hd (by simp)) fun r2 hq2=> ?_
      obtain ⟨⟨_,hq⟩,hq3⟩:=hq2
      exact Tot.next ⟨hq3,hq (fit01 hd),by simp,by simp⟩
    · rcases hr1 with q | q
      · rw [q] at h0;simp at h0
      · exact q
  obtain ⟨w1,w2,kk,ps⟩:=v9
  obtain ⟨hc9,hpl,l1,l5⟩:=h9
  simp only at hc9 hpl l1 l5
  dsimp only
  refine Tot.below hb hc9 fun x10 c10 k10 _ q10=> ?_
  have q10:=q10 (by omega)
  have pin:∀{x y:Int},0<=x->x<(kk.length:Int)->0<=y->y<5->pinP (kk.length:Int) (x,y):=fun a b c e=>⟨⟨a,b⟩,c,by simp only;omega⟩
  refine Tot.lp (fun s=>(0<=s.1/\s.1+(s.2.2.2.length:Int)<=5)/\CurOk b (s.2.1,s.2.2.1)/\∀q∈s.2.2.2,cnP (kk.length:Int) q=true) (fun s=>s.1.toNat) ⟨⟨by simp only;omega,by simp;omega⟩,k10,fun q hq=>by cases hq⟩ (fun s hs=> ?_)
  obtain ⟨i2,p3,p4,cs⟩:=s
  obtain ⟨⟨i20,i21⟩,hcu2,hcs⟩:=hs
  simp only at i20 i21 hcu2 hcs
  dsimp only
  refine Tot.dite (fun h2=> ?_) (fun h2=>Tot.exit (Tot.ret ⟨⟨hd,hpl,by simp only;omega,?_⟩,hcu2⟩))
  rotate_left
  · show cnsP (kk.length:Int) cs=true
    unfold cnsP
    rw [dt ⟨⟨by omega,by omega⟩,by omega⟩,Bool.true_and,List.all_eq_true]
    exact hcs
  refine Tot.below hb hcu2 fun x14 c14 k14 _ q14=> ?_
  have q14:=q14 (by omega)
  refine Tot.below hb k14 fun x15 c15 k15 _ q15=> ?_
  have q15:=q15 (by omega)
  refine Tot.below hb k15 fun x16 c16 k16 _ q16=> ?_
  have q16:=q16 (by omega)
  refine Tot.lp (fun s=>(-1<=s.1/\s.1+(s.2.2.2.length:Int)=x16)/\CurOk b (s.2.1,s.2.2.1)/\∀q∈s.2.2.2,pinP (kk.length:Int) q) (fun s=>(s.1+1).toNat) ⟨⟨by simp only;omega,by simp⟩,k16,fun q hq=>by cases hq⟩ (fun s hs=> ?_)
  obtain ⟨i3,p5,p6,sk⟩:=s
  obtain ⟨⟨i30,i31⟩,hcu3,hsk⟩:=hs
  simp only at i30 i31 hcu3 hsk
  dsimp only
  refine Tot.dite (fun h3=> ?_) (fun h3=>Tot.exit ?_)
  · refine Tot.below hb hcu3 fun x20 c20 k20 _ q20=> ?_
    have q20:=q20 (by omega)
    refine Tot.below hb k20 fun x21 c21 k21 _ q21=> ?_
    have q21:=q21 (by omega)
    refine Tot.app (by simp only [List.length_cons,List.length_nil];omega) (by omega) ?_
    rw [wrap_ok (z:=i3 - 1) (by omega)]
    refine Tot.next ⟨⟨⟨by simp only;omega,by simp only [List.length_append,List.length_cons,List.length_nil];omega⟩,k21,fun q hq=> ?_⟩,by simp only;omega⟩
    rcases List.mem_append.1 hq with e | e
    · exact hsk q e
    · rw [List.mem_singleton] at e;rw [e]
      exact pin q20.1 q20.2 q21.1 q21.2
  · refine Tot.app (by simp only [List.length_cons,List.length_nil];omega) (by omega) ?_
    rw [wrap_ok (z:=i2 - 1) (by omega)]
    refine Tot.next ⟨⟨⟨by simp only;omega,by simp only [List.length_append,List.length_cons,List.length_nil];omega⟩,hcu3,fun q hq=> ?_⟩,by simp only;omega⟩
    rcases List.mem_append.1 hq with e | e
    · exact hcs q e
    · rw [List.mem_singleton] at e;rw [e]
      unfold cnP
      rw [dt ⟨⟨by simp only;omega,by simp only;omega⟩,pin q14.1 q14.2 q15.1 (by omega)⟩,Bool.true_and,List.all_eq_true]
      exact fun p hp=>decide_eq_true (hsk p hp)
theorem placed_tot {b:List Int} (hb:CdOk b):Tot (spec_DrawPlaced b) (fun r=>PD r.1 r.2.1 r.2.2.1 r.2.2.2):=by
  unfold spec_DrawPlaced
  obtain ⟨c,e,hc⟩:=new_ok hb
  refine Tot.bindEq e ?_
  refine Tot.bind (drawn_tot hb hc) fun v hv=> ?_
  exact Tot.ret hv.1
end Go.Pf
