/-
  Own work. Packing, plainly.
-/
import Derived.Test.YtjpkedhcbnklmaaCno
namespace Go.Pf
open Go Go.Pu
set_option linter.unusedVariables false
def elT (n:Net):Nat->List Le×List Bool
  | 0=>([],List.replicate n.2.2.1.length false)
  | k+1=>if (sqAt n.2.1 k).1≠0 then elT n k else
    if 0<=nsAt (sqAt n.2.1 k).2.2 0 - fstP n/\nsAt (usesP n) (nsAt (sqAt n.2.1 k).2.2 0).toNat=1 then
      ((elT n k).1++[(nsAt (sqAt n.2.1 k).2.2 0 - fstP n,(k:Int))],gset (elT n k).2 (nsAt (sqAt n.2.1 k).2.2 0 - fstP n) true)
    else ((elT n k).1++[(-1,(k:Int))],(elT n k).2)
def bAt (U:List Bool) (k:Nat):Bool:=U.getD k false
theorem bAt_get {U:List Bool} {k:Nat} (h:k<U.length):gget false U (k:Int)=some (bAt U k):=by
  unfold bAt
  rw [gget_nat h,List.getD,List.getElem?_eq_getElem h];rfl
def elL (n:Net):Nat->List Le
  | 0=>(elT n n.2.1.length).1
  | k+1=>if bAt (elT n n.2.1.length).2 k=false then elL n k++[((k:Int),-1)] else elL n k
def elP (n:Net):List Le:=elL n n.2.2.1.length
theorem elT_ok {n:Net} (hn:netP n=true):∀k,k<=n.2.1.length->(elT n k).1.length<=k/\(elT n k).2.length=n.2.2.1.length/\∀e∈(elT n k).1,leOk n e:=by
  obtain ⟨hln,_,hs,_⟩:=netP_all hn
  have hv:=lnV_le hln
  intro k
  induction k with
  | zero=>intro _;simp [elT]
  | succ k ih=>
    intro hk
    obtain ⟨i1,i2,i3⟩:=ih (by omega)
    have hsk:=hs k (by omega)
    unfold elT
    by_cases c0:(sqAt n.2.1 k).1≠0
    · rw [if_pos c0];exact ⟨by omega,i2,i3⟩
    have c0:(sqAt n.2.1 k).1=0:=Decidable.byContradiction c0
    rw [if_neg (fun e=>e c0)]
    have hlen:(sqAt n.2.1 k).2.2.length=1:=by rcases hsk.1 with q | q<;>omega
    have hx:=belowP_mem hsk.2 (nsAt (sqAt n.2.1 k).2.2 0) (by
      rw [<-ns_at (show 0<(sqAt n.2.1 k).2.2.length by omega)];exact List.getElem_mem _)
    have hlv:lnV n=fstP n+n.2.2.1.length:=rfl
    by_cases c1:0<=nsAt (sqAt n.2.1 k).2.2 0 - fstP n/\nsAt (usesP n) (nsAt (sqAt n.2.1 k).2.2 0).toNat=1
    · rw [if_pos c1]
      refine ⟨by simp;omega,by show (gset _ _ _).length=_;unfold gset;rw [List.length_set];exact i2,fun e he=> ?_⟩
      rcases List.mem_append.1 he with q | q
      · exact i3 e q
      · rw [List.mem_singleton] at q
        subst q
        refine ⟨⟨⟨by simp only;omega,by simp only;omega⟩,⟨by simp only;omega,by simp only;omega⟩,by simp only;omega⟩,fun _=> ?_,fun _ _=> ?_⟩
        · simp only [Int.toNat_natCast];exact c0
        · simp only [Int.toNat_natCast]
          refine ⟨by omega,?_⟩
          rw [show fstP n+(nsAt (sqAt n.2.1 k).2.2 0 - fstP n)=nsAt (sqAt n.2.1 k).2.2 0 by omega]
          exact c1.2
    · rw [if_neg c1]
      refine ⟨by simp;omega,i2,fun e he=> ?_⟩
      rcases List.mem_append.1 he with q | q
      · exact i3 e q
      · rw [List.mem_singleton] at q
        subst q
        refine ⟨⟨⟨by simp only;omega,by simp only;omega⟩,⟨by simp only;omega,by simp only;omega⟩,by simp only;omega⟩,fun _=> ?_,fun h=>absurd h (by simp only;omega)⟩
        simp only [Int.toNat_natCast];exact c0
theorem elL_ok {n:Net} (hn:netP n=true):∀k,k<=n.2.2.1.length->(elL n k).length<=12+k/\∀e∈elL n k,leOk n e:=by
  obtain ⟨hln,_⟩:=netP_all hn
  obtain ⟨h1,h2,h3⟩:=elT_ok hn n.2.1.length (Nat.le_refl _)
  have hl2:=hln.2.1
  intro k
  induction k with
  | zero=>intro _;exact ⟨by show (elT n n.2.1.length).1.length<=_;omega,h3⟩
  | succ k ih=>
    intro hk
    obtain ⟨i1,i2⟩:=ih (by omega)
    show (if bAt (elT n n.2.1.length).2 k=false then elL n k++[((k:Int),-1)] else elL n k).length<=_/\∀e∈(if bAt (elT n n.2.1.length).2 k=false then elL n k++[((k:Int),-1)] else elL n k),leOk n e
    split
    · refine ⟨by simp;omega,fun e he=> ?_⟩
      rcases List.mem_append.1 he with q | q
      · exact i2 e q
      · rw [List.mem_singleton] at q
        subst q
        exact ⟨⟨⟨by simp only;omega,by simp only;omega⟩,⟨by simp only;omega,by simp only;omega⟩,by simp only;omega⟩,fun h=>absurd h (by simp only;omega),fun _ h=>absurd h (by simp only;omega)⟩
    · exact ⟨by omega,i2⟩
theorem gapp16l {xs ys:List Le} (h:xs.length+ys.length<=1000000000):gapp 16 xs ys=some (xs++ys):=gapp_some (by omega) (by omega)
theorem gapp40 {xs ys:List Blk} (h:xs.length+ys.length<=1000000000):gapp 40 xs ys=some (xs++ys):=gapp_some (by omega) (by omega)
theorem el_impl {n:Net} (hb:NetB n) (hn:netP n=true):impl_elements n=some (elP n):=by
  obtain ⟨hln,_,hs,_⟩:=netP_all hn
  have hv:=lnV_le hln
  have hl2:=hln.2.1
  have hl3:=hln.2.2.1
  have hul:=usesP_len n
  have hlv:lnV n=fstP n+n.2.2.1.length:=rfl
  unfold impl_elements
  rw [uses_impl hb hn]
  simp only [Option.bind_some]
  rw [gmake_nat (by omega) (by omega)]
  simp only [Option.bind_some]
  refine loop_upto n.2.1.length (fun k=>((k:Int),elT n k)) (fun k hk=> ?_) ?_
  · obtain ⟨i1,i2,_⟩:=elT_ok hn k (by omega)
    have hsk:=hs k hk
    obtain ⟨g1,g2⟩:=sq_get hk
    try dsimp only
    rw [dt (show (k:Int)<(n.2.1.length:Int) by omega),cond_true,g1]
    simp only [Option.bind_some]
    rw [show elT n (k+1)=if (sqAt n.2.1 k).1≠0 then elT n k else
    if 0<=nsAt (sqAt n.2.1 k).2.2 0 - fstP n/\nsAt (usesP n) (nsAt (sqAt n.2.1 k).2.2 0).toNat=1 then
      ((elT n k).1++[(nsAt (sqAt n.2.1 k).2.2 0 - fstP n,(k:Int))],gset (elT n k).2 (nsAt (sqAt n.2.1 k).2.2 0 - fstP n) true)
    else ((elT n k).1++[(-1,(k:Int))],(elT n k).2) from rfl]
    generalize elT n k=t at*
    by_cases c0:(sqAt n.2.1 k).1≠0
    · rw [dt c0,cond_true,if_pos c0,wrap_ok (by omega)];rfl
    rw [df c0,cond_false,if_neg c0]
    have c0:(sqAt n.2.1 k).1=0:=Decidable.byContradiction c0
    have hlen:(sqAt n.2.1 k).2.2.length=1:=by rcases hsk.1 with q | q<;>omega
    have g0:gget 0 (sqAt n.2.1 k).2.2 0=some (nsAt (sqAt n.2.1 k).2.2 0):=nsAt_get (show 0<(sqAt n.2.1 k).2.2.length by omega)
    have hx:=belowP_mem hsk.2 (nsAt (sqAt n.2.1 k).2.2 0) (by
      rw [<-ns_at (show 0<(sqAt n.2.1 k).2.2.length by omega)];exact List.getElem_mem _)
    rw [g0]
    generalize nsAt (sqAt n.2.1 k).2.2 0=x at*
    simp only [Option.bind_some]
    rw [fst_impl hln]
    simp only [Option.bind_some]
    rw [wrap_ok (z:=x - fstP n) (by omega)]
    by_cases c1:0<=x - fstP n
    · rw [dt c1,cond_true,gin_some hx.1 (by omega),gget_ns hx.1 (by omega)]
      simp only [Option.bind_some]
      by_cases c2:nsAt (usesP n) x.toNat=1
      · have gb:gget false t.2 (x - fstP n)=some (t.2.getD (x - fstP n).toNat false):=gget_some c1 (by omega)
        rw [dt c2,cond_true,if_pos ⟨c1,c2⟩,gin_some c1 (by omega),gb]
        simp only [Option.bind_some]
        rw [gapp16l (by simp only [List.length_cons,List.length_nil];omega)]
        simp only [Option.bind_some]
        rw [wrap_ok (z:=(k:Int)+1) (by omega)];rfl
      · rw [df c2,cond_false,if_neg (fun e=>c2 e.2),gapp16l (by simp only [List.length_cons,List.length_nil];omega)]
        simp only [Option.bind_some]
        rw [wrap_ok (z:=(k:Int)+1) (by omega)];rfl
    · rw [df c1,cond_false,if_neg (fun e=>c1 e.1),gapp16l (by simp only [List.length_cons,List.length_nil];omega)]
      simp only [Option.bind_some]
      rw [wrap_ok (z:=(k:Int)+1) (by omega)];rfl
  · obtain ⟨i1,i2,_⟩:=elT_ok hn n.2.1.length (Nat.le_refl _)
    try dsimp only
    rw [df (show ¬(n.2.1.length:Int)<(n.2.1.length:Int) by omega),cond_false]
    refine mapS ?_
    refine loop_upto n.2.2.1.length (fun k=>((k:Int),elL n k)) (fun k hk=> ?_) ?_
    · have hel:=(elL_ok hn k (by omega)).1
      try dsimp only
      rw [dt (show (k:Int)<(n.2.2.1.length:Int) by omega),cond_true,gin_nat (by omega),bAt_get (by omega)]
      simp only [Option.bind_some]
      show _=some (Sum.inl (((k+1:Nat):Int),if bAt (elT n n.2.1.length).2 k=false then elL n k++[((k:Int),-1)] else elL n k))
      cases hu:bAt (elT n n.2.1.length).2 k with
      | true=>rw [Bool.not_true,cond_false,if_neg (by simp),wrap_ok (by omega)];rfl
      | false=>
        rw [Bool.not_false,cond_true,if_pos rfl,gapp16l (by simp only [List.length_cons,List.length_nil];omega)]
        simp only [Option.bind_some]
        rw [wrap_ok (by omega)];rfl
    · try dsimp only
      rw [df (show ¬(n.2.2.1.length:Int)<(n.2.2.1.length:Int) by omega),cond_false];rfl
theorem el_spec {n:Net} (hb:NetB n) (hn:netP n=true):spec_l28Les n=some (elP n):=by
  obtain ⟨hln,_,hs,_⟩:=netP_all hn
  have hv:=lnV_le hln
  have hl2:=hln.2.1
  have hl3:=hln.2.2.1
  have hul:=usesP_len n
  have hlv:lnV n=fstP n+n.2.2.1.length:=rfl
  unfold spec_l28Les
  rw [uses_spec hb hn]
  simp only [Option.bind_some]
  rw [gmake_nat (by omega) (by omega)]
  simp only [Option.bind_some]
  refine loop_upto n.2.1.length (fun k=>((k:Int),elT n k)) (fun k hk=> ?_) ?_
  · obtain ⟨i1,i2,_⟩:=elT_ok hn k (by omega)
    have hsk:=hs k hk
    obtain ⟨g1,g2⟩:=sq_get hk
    try dsimp only
    rw [dt (show (k:Int)<(n.2.1.length:Int) by omega),cond_true,g1]
    simp only [Option.bind_some]
    rw [show elT n (k+1)=if (sqAt n.2.1 k).1≠0 then elT n k else
    if 0<=nsAt (sqAt n.2.1 k).2.2 0 - fstP n/\nsAt (usesP n) (nsAt (sqAt n.2.1 k).2.2 0).toNat=1 then
      ((elT n k).1++[(nsAt (sqAt n.2.1 k).2.2 0 - fstP n,(k:Int))],gset (elT n k).2 (nsAt (sqAt n.2.1 k).2.2 0 - fstP n) true)
    else ((elT n k).1++[(-1,(k:Int))],(elT n k).2) from rfl]
    generalize elT n k=t at*
    by_cases c0:(sqAt n.2.1 k).1≠0
    · rw [dt c0,cond_true,if_pos c0,wrap_ok (by omega)];rfl
    rw [df c0,cond_false,if_neg c0]
    have c0:(sqAt n.2.1 k).1=0:=Decidable.byContradiction c0
    have hlen:(sqAt n.2.1 k).2.2.length=1:=by rcases hsk.1 with q | q<;>omega
    have g0:gget 0 (sqAt n.2.1 k).2.2 0=some (nsAt (sqAt n.2.1 k).2.2 0):=nsAt_get (show 0<(sqAt n.2.1 k).2.2.length by omega)
    have hx:=belowP_mem hsk.2 (nsAt (sqAt n.2.1 k).2.2 0) (by
      rw [<-ns_at (show 0<(sqAt n.2.1 k).2.2.length by omega)];exact List.getElem_mem _)
    rw [g0]
    generalize nsAt (sqAt n.2.1 k).2.2 0=x at*
    simp only [Option.bind_some]
    rw [fst_spec hln]
    simp only [Option.bind_some]
    rw [wrap_ok (z:=x - fstP n) (by omega)]
    by_cases c1:0<=x - fstP n
    · rw [dt c1,cond_true,gin_some hx.1 (by omega),gget_ns hx.1 (by omega)]
      simp only [Option.bind_some]
      by_cases c2:nsAt (usesP n) x.toNat=1
      · have gb:gget false t.2 (x - fstP n)=some (t.2.getD (x - fstP n).toNat false):=gget_some c1 (by omega)
        rw [dt c2,cond_true,if_pos ⟨c1,c2⟩,gin_some c1 (by omega),gb]
        simp only [Option.bind_some]
        rw [gapp16l (by simp only [List.length_cons,List.length_nil];omega)]
        simp only [Option.bind_some]
        rw [wrap_ok (z:=(k:Int)+1) (by omega)];rfl
      · rw [df c2,cond_false,if_neg (fun e=>c2 e.2),gapp16l (by simp only [List.length_cons,List.length_nil];omega)]
        simp only [Option.bind_some]
        rw [wrap_ok (z:=(k:Int)+1) (by omega)];rfl
    · rw [df c1,cond_false,if_neg (fun e=>c1 e.1),gapp16l (by simp only [List.length_cons,List.length_nil];omega)]
      simp only [Option.bind_some]
      rw [wrap_ok (z:=(k:Int)+1) (by omega)];rfl
  · obtain ⟨i1,i2,_⟩:=elT_ok hn n.2.1.length (Nat.le_refl _)
    try dsimp only
    rw [df (show ¬(n.2.1.length:Int)<(n.2.1.length:Int) by omega),cond_false]
    refine mapS ?_
    refine loop_upto n.2.2.1.length (fun k=>((k:Int),elL n k)) (fun k hk=> ?_) ?_
    · have hel:=(elL_ok hn k (by omega)).1
      try dsimp only
      rw [dt (show (k:Int)<(n.2.2.1.length:Int) by omega),cond_true,gin_nat (by omega),bAt_get (by omega)]
      simp only [Option.bind_some]
      show _=some (Sum.inl (((k+1:Nat):Int),if bAt (elT n n.2.1.length).2 k=false then elL n k++[((k:Int),-1)] else elL n k))
      cases hu:bAt (elT n n.2.1.length).2 k with
      | true=>rw [Bool.not_true,cond_false,if_neg (by simp),wrap_ok (by omega)];rfl
      | false=>
        rw [Bool.not_false,cond_true,if_pos rfl,gapp16l (by simp only [List.length_cons,List.length_nil];omega)]
        simp only [Option.bind_some]
        rw [wrap_ok (by omega)];rfl
    · try dsimp only
      rw [df (show ¬(n.2.2.1.length:Int)<(n.2.2.1.length:Int) by omega),cond_false];rfl
def ndsLe (n:Net) (e:Le):List Int:=ins (insLe n e) (outLe n e)
def cmA (xs ys:List Int):Nat->Int
  | 0=>0
  | k+1=>if nsAt xs k∈ys then cmA xs ys k+1 else cmA xs ys k
theorem cmA_le (xs ys:List Int) (k:Nat):0<=cmA xs ys k/\cmA xs ys k<=k:=by
  induction k with
  | zero=>simp [cmA]
  | succ k ih=>unfold cmA;split<;>omega
def com (n:Net) (e r:Le):Int:=cmA (ndsLe n e) (ndsLe n r) (ndsLe n e).length
theorem nds_len {n:Net} (h:netP n=true) {e:Le} (he:leOk n e):(ndsLe n e).length<=5:=by
  have h1:=insLe_len h he
  have h2:=ins_len (insLe n e) (outLe n e)
  unfold ndsLe
  omega
theorem nds_impl {n:Net} (h:netP n=true) {e:Le} (he:leOk n e):impl_leNodes (n,e)=some (ndsLe n e):=by
  have h1:=insLe_len h he
  unfold impl_leNodes
  rw [ins_impl h he,out_impl (netP_all h).1 he]
  simp only [Option.bind_some]
  rw [insert_impl _ _ (by omega)];rfl
theorem com_impl {n:Net} (h:netP n=true) {e r:Le} (he:leOk n e) (hr:leOk n r):impl_commonCount (ndsLe n e,ndsLe n r)=some (com n e r):=by
  have h1:=nds_len h he
  have h2:=nds_len h hr
  unfold impl_commonCount com
  generalize ndsLe n e=xs at*
  generalize ndsLe n r=ys at*
  refine loop_upto xs.length (fun k=>(cmA xs ys k,(k:Int))) (fun k hk=> ?_) ?_
  · have hc:=cmA_le xs ys k
    try dsimp only
    rw [dt (show (k:Int)<(xs.length:Int) by omega),cond_true,nsAt_get hk]
    simp only [Option.bind_some]
    rw [has_impl _ _ (by omega)]
    simp only [Option.bind_some]
    show _=some (Sum.inl ((if nsAt xs k∈ys then cmA xs ys k+1 else cmA xs ys k),((k+1:Nat):Int)))
    by_cases c:nsAt xs k∈ys
    · rw [dt c,cond_true,if_pos c,wrap_ok (z:=cmA xs ys k+1) (by omega),wrap_ok (z:=(k:Int)+1) (by omega)];rfl
    · rw [df c,cond_false,if_neg c,wrap_ok (z:=(k:Int)+1) (by omega)];rfl
  · try dsimp only
    rw [df (by omega),cond_false];rfl
theorem com_spec {n:Net} (h:netP n=true) {e r:Le} (he:leOk n e) (hr:leOk n r):spec_l28Common (n,(e,r))=some (com n e r):=by
  have h1:=insLe_len h he
  have h2:=insLe_len h hr
  have h3:=nds_len h he
  have ho:=outLe_r (netP_all h).1 he
  unfold spec_l28Common com
  try dsimp only
  rw [ins_spec h he,out_spec (netP_all h).1 he,ins_spec h hr,out_spec (netP_all h).1 hr]
  simp only [Option.bind_some]
  rw [gapp_ok (by simp only [List.length_cons,List.length_nil];omega)]
  simp only [Option.bind_some]
  rw [gapp_ok (by simp only [List.length_cons,List.length_nil];omega)]
  simp only [Option.bind_some]
  rw [set28_spec _ _ (by simp only [List.length_append,List.length_cons,List.length_nil];omega) (by simp)]
  simp only [Option.bind_some]
  have e1:setP (insLe n e++[outLe n e]) []=ndsLe n e:=by
    refine asc_ext (asc_insL asc_nil) (asc_ins (asc_insL asc_nil)) fun x=> ?_
    rw [setP_mem,List.mem_append,List.mem_singleton]
    unfold ndsLe
    rw [mem_ins]
    constructor
    · rintro ⟨q | q,_⟩
      · exact .inr q
      · exact .inl q
    · rintro (q | q)
      · exact ⟨.inr q,by omega,by simp⟩
      · exact ⟨.inl q,(setP_mem.1 q).2.1,by simp⟩
  have e2:∀x,(x∈insLe n r++[outLe n r])↔x∈ndsLe n r:=fun x=>by
    unfold ndsLe
    rw [mem_ins,List.mem_append,List.mem_singleton]
    exact ⟨fun q=>q.symm,fun q=>q.symm⟩
  rw [e1]
  have h4:(insLe n r++[outLe n r]).length<=5:=by simp;omega
  generalize insLe n r++[outLe n r]=zs at*
  generalize ndsLe n e=xs at*
  generalize ndsLe n r=ys at*
  refine loop_upto xs.length (fun k=>(cmA xs ys k,(k:Int))) (fun k hk=> ?_) ?_
  · have hc:=cmA_le xs ys k
    try dsimp only
    rw [dt (show (k:Int)<(xs.length:Int) by omega),cond_true,gin_nat hk,nsAt_get hk]
    simp only [Option.bind_some]
    rw [has_spec _ _ (by omega)]
    simp only [Option.bind_some]
    show _=some (Sum.inl ((if nsAt xs k∈ys then cmA xs ys k+1 else cmA xs ys k),((k+1:Nat):Int)))
    by_cases c:nsAt xs k∈ys
    · rw [dt ((e2 _).2 c),if_pos c]
      show (some (1:Int)).bind _=_
      simp only [Option.bind_some]
      rw [wrap_ok (z:=cmA xs ys k+1) (by omega),wrap_ok (z:=(k:Int)+1) (by omega)];rfl
    · rw [df (fun q=>c ((e2 _).1 q)),if_neg c]
      show (some (0:Int)).bind _=_
      simp only [Option.bind_some]
      rw [wrap_ok (z:=cmA xs ys k+0) (by omega),wrap_ok (z:=(k:Int)+1) (by omega),Int.add_zero];rfl
  · try dsimp only
    rw [df (by omega),cond_false];rfl
end Go.Pf
