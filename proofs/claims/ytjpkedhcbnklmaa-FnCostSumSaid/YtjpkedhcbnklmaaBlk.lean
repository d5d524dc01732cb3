/-
  Own work. Blocks, plainly: items that exist, their outputs, their pins.
-/
import Derived.Test.YtjpkedhcbnklmaaLep
namespace Go.Pf
open Go Go.Pu
set_option linter.unusedVariables false
abbrev Blk:=Int×(Int×List Le)
theorem nodup_le' :∀(N:Nat) (xs:List Int),xs.Nodup->(∀x∈xs,0<=x/\x<(N:Int))->xs.length<=N
  | 0,xs,_,h=>by
    cases xs with
    | nil=>simp
    | cons a r=>have:=h a (by simp);omega
  | N+1,xs,hn,h=>by
    have h1:=nodup_le' N (xs.erase (N:Int)) (hn.erase _) (fun x hx=>by
      have:=(List.Nodup.mem_erase_iff hn).1 hx
      have:=h x this.2
      omega)
    have h2:=List.length_erase (a:=(N:Int)) (l:=xs)
    split at h2<;>omega
theorem asc_nodup {xs:List Int} (h:Asc xs):xs.Nodup:=h.imp (fun q e=>by omega)
def leAt (ls:List Le) (k:Nat):Le:=ls.getD k (0,0)
theorem le_get {ls:List Le} {k:Nat} (h:k<ls.length):gget ((0,0):Le) ls (k:Int)=some (leAt ls k):=by
  unfold leAt
  rw [gget_nat h,List.getD,List.getElem?_eq_getElem h];rfl
theorem le_eq {ls:List Le} {k:Nat} (h:k<ls.length):ls[k]=leAt ls k:=by
  unfold leAt
  rw [List.getD,List.getElem?_eq_getElem h];rfl
def lesP (n:Net) (ls:List Le):Bool:=ls.all fun e=>decide (leOk n e)
theorem lesP_at {n:Net} {ls:List Le} (h:lesP n ls=true) {k:Nat} (hk:k<ls.length):leOk n (leAt ls k):=by
  rw [<-le_eq hk];exact of_decide_eq_true (List.all_eq_true.1 h _ (List.getElem_mem hk))
theorem les_eq (n:Net) (ls:List Le):lesP n ls=if (List.range ls.length).all (fun k=>if hk:k<ls.length then decide (leOk n ls[k]) else true)=true then true else false:=by
  rw [all_range_list ls (fun e=>decide (leOk n e)) _ (fun k hk=>by rw [dif_pos hk])]
  show lesP n ls=if lesP n ls=true then true else false
  cases lesP n ls<;>rfl
def itemP (n:Net) (b:Blk):Bool:=
  if b.1=0 then decide (0<=b.2.1/\b.2.1<n.1) else if b.1=1 then decide (0<=b.2.1/\b.2.1<(n.2.2.2.length:Int)) else if b.1=2 then decide (0<=b.2.1/\b.2.1<(n.2.1.length:Int)) else if b.1=3 then lesP n b.2.2 else false
theorem and2 (a c:Prop) [Decidable a] [Decidable c]:(bif decide a then some (decide c) else some false)=some (decide (a/\c)):=by
  by_cases h:a
  · simp [h]
  · simp [h]
theorem known_spec (n:Net) (b:Blk) (hb:NetB n) (hl:b.2.2.length<=1048576):spec_l28Known (n,b)=some (netP n && itemP n b):=by
  unfold spec_l28Known
  rw [net_spec n hb]
  simp only [Option.bind_some]
  cases h:netP n with
  | false=>rfl
  | true=>
    rw [Bool.not_true,cond_false,Bool.true_and]
    unfold itemP
    by_cases k0:b.1=0
    · rw [dt k0,cond_true,if_pos k0];exact and2 _ _
    rw [df k0,cond_false,if_neg k0]
    by_cases k1:b.1=1
    · rw [dt k1,cond_true,if_pos k1];exact and2 _ _
    rw [df k1,cond_false,if_neg k1]
    by_cases k2:b.1=2
    · rw [dt k2,cond_true,if_pos k2];exact and2 _ _
    rw [df k2,cond_false,if_neg k2]
    have e:(if b.1=3 then lesP n b.2.2 else false)=if (List.range b.2.2.length).all (fun k=>if hk:k<b.2.2.length then decide (leOk n b.2.2[k]) else true)=true then decide (b.1=3) else false:=by
      have:=les_eq n b.2.2
      by_cases k3:b.1=3
      · rw [if_pos k3,dt k3];exact this
      · rw [if_neg k3,df k3];split<;>rfl
    rw [e]
    refine loop_all b.2.2.length (fun k=>(k:Int)) _ false _ (fun k hk hok=> ?_) (fun k hk hok=> ?_) ?_
    · rw [dif_pos hk] at hok
      rw [le_eq hk] at hok
      try dsimp only
      rw [dt (show (k:Int)<(b.2.2.length:Int) by omega),cond_true,le_get hk]
      simp only [Option.bind_some]
      rw [le_spec hb h]
      simp only [Option.bind_some]
      rw [hok,Bool.not_true,cond_false,wrap_ok (by omega)];rfl
    · rw [dif_pos hk] at hok
      rw [le_eq hk] at hok
      try dsimp only
      rw [dt (show (k:Int)<(b.2.2.length:Int) by omega),cond_true,le_get hk]
      simp only [Option.bind_some]
      rw [le_spec hb h]
      simp only [Option.bind_some]
      rw [hok];rfl
    · try dsimp only
      rw [df (by omega),cond_false];rfl
def outsL (n:Net) (ls:List Le) (k:Nat):List Int:=(ls.take k).map (outLe n)
theorem le_take {ls:List Le} {k:Nat} (h:k<ls.length):ls.take (k+1)=ls.take k++[leAt ls k]:=by rw [take_succ' ls k h,le_eq h]
theorem outsL_succ (n:Net) {ls:List Le} {k:Nat} (h:k<ls.length):outsL n ls (k+1)=outsL n ls k++[outLe n (leAt ls k)]:=by
  unfold outsL;rw [le_take h,List.map_append];rfl
theorem outsL_len (n:Net) (ls:List Le) (k:Nat):(outsL n ls k).length<=k:=by unfold outsL;simp;omega
def outN (n:Net) (b:Blk):List Int:=if b.1=0 then [1+b.2.1] else if b.1=1 then [] else if b.1=2 then [1+n.1+b.2.1] else outsL n b.2.2 b.2.2.length
theorem item3 {n:Net} {b:Blk} (h:itemP n b=true) (k0:¬b.1=0) (k1:¬b.1=1) (k2:¬b.1=2):b.1=3/\lesP n b.2.2=true:=by
  unfold itemP at h
  rw [if_neg k0,if_neg k1,if_neg k2] at h
  split at h
  · rename_i q;exact ⟨q,h⟩
  · simp at h
theorem outN_spec (n:Net) (b:Blk) (hb:NetB n) (hl:b.2.2.length<=1048576):spec_OutNodes (n,b)=some (if (netP n && itemP n b)=true then outN n b else []):=by
  unfold spec_OutNodes
  rw [known_spec n b hb hl]
  simp only [Option.bind_some]
  cases hk:(netP n && itemP n b) with
  | false=>rfl
  | true=>
    rw [Bool.and_eq_true] at hk
    obtain ⟨hn,hi⟩:=hk
    obtain ⟨hln,_⟩:=netP_all hn
    have h0:=hln.1
    have h2:=hln.2.1
    rw [Bool.not_true,cond_false,if_pos rfl]
    unfold outN
    by_cases k0:b.1=0
    · unfold itemP at hi
      rw [if_pos k0] at hi
      have hi:=of_decide_eq_true hi
      rw [dt k0,cond_true,if_pos k0,wrap_ok (by omega)]
    rw [df k0,cond_false,if_neg k0]
    by_cases k1:b.1=1
    · rw [dt k1,cond_true,if_pos k1]
    rw [df k1,cond_false,if_neg k1]
    by_cases k2:b.1=2
    · unfold itemP at hi
      rw [if_neg k0,if_neg k1,if_pos k2] at hi
      have hi:=of_decide_eq_true hi
      rw [dt k2,cond_true,if_pos k2,wrap_ok (z:=1+n.1) (by omega),wrap_ok (by omega)]
    rw [df k2,cond_false,if_neg k2]
    obtain ⟨k3,hls⟩:=item3 hi k0 k1 k2
    refine loop_upto b.2.2.length (fun k=>((k:Int),outsL n b.2.2 k)) (fun k hk=> ?_) ?_
    · have hol:=outsL_len n b.2.2 k
      try dsimp only
      rw [dt (show (k:Int)<(b.2.2.length:Int) by omega),cond_true,le_get hk]
      simp only [Option.bind_some]
      rw [out_spec hln (lesP_at hls hk)]
      simp only [Option.bind_some]
      rw [gapp_ok (by simp only [List.length_cons,List.length_nil];omega),<-outsL_succ n hk]
      simp only [Option.bind_some]
      rw [wrap_ok (by omega)];rfl
    · try dsimp only
      rw [df (by omega),cond_false];rfl
def insA (n:Net) (ls:List Le):Nat->List Int
  | 0=>[]
  | k+1=>insA n ls k++insLe n (leAt ls k)
theorem insA_len {n:Net} (h:netP n=true) {ls:List Le} (hls:lesP n ls=true) (k:Nat) (hk:k<=ls.length):(insA n ls k).length<=4*k:=by
  induction k with
  | zero=>simp [insA]
  | succ k ih=>
    have h1:=insLe_len h (lesP_at hls (show k<ls.length by omega))
    have h2:=ih (by omega)
    show (insA n ls k++insLe n (leAt ls k)).length<=_
    rw [List.length_append];omega
theorem insA_mem {n:Net} (h:netP n=true) {ls:List Le} (hls:lesP n ls=true) (k:Nat) (hk:k<=ls.length):∀x∈insA n ls k,0<x/\x<lnV n:=by
  induction k with
  | zero=>simp [insA]
  | succ k ih=>
    intro x hx
    rcases List.mem_append.1 hx with q | q
    · exact ih (by omega) x q
    · have h1:=setP_mem.1 q
      have h2:=(insX_ok h (lesP_at hls (show k<ls.length by omega))).2 x h1.1
      omega
def pinsP (n:Net) (ls:List Le):List Int:=setP (insA n ls ls.length) (outsL n ls ls.length)
theorem pinsP_len {n:Net} (h:netP n=true) {ls:List Le} (hls:lesP n ls=true):(pinsP n ls).length<=433:=by
  have hv:=lnV_le (netP_all h).1
  have:=nodup_le' 433 (pinsP n ls) (asc_nodup (asc_insL asc_nil)) (fun x hx=>by
    have h1:=setP_mem.1 hx
    have h2:=insA_mem h hls _ (Nat.le_refl _) x h1.1
    omega)
  exact this
theorem pins_spec {n:Net} (hb:NetB n) (h:netP n=true) {ls:List Le} (hls:lesP n ls=true) (hl:ls.length<=1048576):spec_l28Pins (n,ls)=some (pinsP n ls):=by
  obtain ⟨hln,_⟩:=netP_all h
  unfold spec_l28Pins
  refine loop_upto ls.length (fun k=>((k:Int),(insA n ls k,outsL n ls k))) (fun k hk=> ?_) ?_
  · have hol:=outsL_len n ls k
    have hil:=insA_len h hls k (by omega)
    have h1:=insLe_len h (lesP_at hls hk)
    try dsimp only
    rw [dt (show (k:Int)<(ls.length:Int) by omega),cond_true,le_get hk]
    simp only [Option.bind_some]
    rw [ins_spec h (lesP_at hls hk)]
    simp only [Option.bind_some]
    rw [gapp_ok (by omega)]
    simp only [Option.bind_some]
    rw [out_spec hln (lesP_at hls hk)]
    simp only [Option.bind_some]
    rw [gapp_ok (by simp only [List.length_cons,List.length_nil];omega),<-outsL_succ n hk]
    simp only [Option.bind_some]
    rw [wrap_ok (by omega)];rfl
  · have hol:=outsL_len n ls ls.length
    have hil:=insA_len h hls ls.length (by omega)
    try dsimp only
    rw [df (by omega),cond_false,set28_spec _ _ (by omega) (by omega)];rfl
theorem pins3_impl {n:Net} {b:Blk} (hb:NetB n) (h:netP n=true) (hls:lesP n b.2.2=true) (hl:b.2.2.length<=1048576) (k3:b.1=3):impl_pinNodes (n,b)=some (pinsP n b.2.2):=by
  obtain ⟨hln,_⟩:=netP_all h
  unfold impl_pinNodes
  try dsimp only
  rw [df (show ¬b.1=0 by omega),cond_false,df (show ¬b.1=1 by omega),cond_false,df (show ¬b.1=2 by omega),cond_false]
  generalize b.2.2=ls at*
  refine loop_upto ls.length (fun k=>(outsL n ls k,(k:Int))) (fun k hk=> ?_) ?_
  · have hol:=outsL_len n ls k
    try dsimp only
    rw [dt (show (k:Int)<(ls.length:Int) by omega),cond_true,le_get hk]
    simp only [Option.bind_some]
    rw [out_impl hln (lesP_at hls hk)]
    simp only [Option.bind_some]
    rw [gapp_ok (by simp only [List.length_cons,List.length_nil];omega),<-outsL_succ n hk]
    simp only [Option.bind_some]
    rw [wrap_ok (by omega)];rfl
  try dsimp only
  rw [df (show ¬(ls.length:Int)<(ls.length:Int) by omega),cond_false]
  refine (Option.map_eq_some_iff).2 ⟨_,?_,rfl⟩
  have hol:=outsL_len n ls ls.length
  have conv:pinsP n ls=insL [] ((insA n ls ls.length).filter fun x=>decide (x∉outsL n ls ls.length)):=by
    unfold pinsP setP
    congr 1
    apply List.filter_congr
    intro x hx
    have:=insA_mem h hls _ (Nat.le_refl _) x hx
    rw [decide_eq_decide]
    exact ⟨fun q=>q.2,fun q=>⟨this.1,q⟩⟩
  rw [conv]
  generalize hO:outsL n ls ls.length=O at*
  refine loop_upto ls.length (fun k=>(insL [] ((insA n ls k).filter fun x=>decide (x∉O)),(k:Int))) (fun k hk=> ?_) ?_
  · have hil:=insA_len h hls k (by omega)
    have h1:=insLe_len h (lesP_at hls hk)
    have e1:insA n ls (k+1)=insA n ls k++insLe n (leAt ls k):=rfl
    try dsimp only
    rw [dt (show (k:Int)<(ls.length:Int) by omega),cond_true,le_get hk]
    simp only [Option.bind_some]
    rw [ins_impl h (lesP_at hls hk)]
    simp only [Option.bind_some]
    rw [e1]
    generalize insA n ls k=A at*
    generalize insLe n (leAt ls k)=X at*
    have e0:((0:Int),insL [] (A.filter fun x=>decide (x∉O)))=(fun j:Nat=>((j:Int),insL [] ((A++X.take j).filter fun x=>decide (x∉O)))) 0:=by simp
    rw [e0]
    refine loop_upto X.length (fun j=>((j:Int),insL [] ((A++X.take j).filter fun x=>decide (x∉O)))) (fun j hj=> ?_) ?_
    · have hil2:=insL_len [] ((A++X.take j).filter fun x=>decide (x∉O))
      have hfl:=List.length_filter_le (fun x=>decide (x∉O)) (A++X.take j)
      rw [List.length_append,List.length_take] at hfl
      simp only [List.length_nil] at hil2
      try dsimp only
      rw [dt (show (j:Int)<(X.length:Int) by omega),cond_true,gin_nat hj,nsAt_get hj]
      simp only [Option.bind_some]
      rw [has_impl _ _ (by omega),take_at hj,<-List.append_assoc,List.filter_append (A++X.take j),insL_app,wrap_ok (by omega)]
      simp only [Option.bind_some]
      by_cases c:nsAt X j∈O
      · have ef:[nsAt X j].filter (fun x=>decide (x∉O))=[]:=by simp [c]
        rw [dt c,Bool.not_true,cond_false,ef,insL_nil];rfl
      · have ef:[nsAt X j].filter (fun x=>decide (x∉O))=[nsAt X j]:=by simp [c]
        rw [df c,Bool.not_false,cond_true,insert_impl _ _ (by omega),ef,insL_one];rfl
    · try dsimp only
      rw [df (by omega),cond_false,List.take_of_length_le (Nat.le_refl _),wrap_ok (by omega)];rfl
  · try dsimp only
    rw [df (by omega),cond_false];rfl
def pinN (n:Net) (b:Blk):List Int:=if b.1=0 then [] else if b.1=1 then [nsAt n.2.2.2 b.2.1.toNat] else if b.1=2 then (sqAt n.2.1 b.2.1.toNat).2.2 else pinsP n b.2.2
theorem pinN_len {n:Net} {b:Blk} (h:netP n=true) (hi:itemP n b=true):(pinN n b).length<=433:=by
  unfold pinN
  by_cases k0:b.1=0
  · rw [if_pos k0];simp
  rw [if_neg k0]
  by_cases k1:b.1=1
  · rw [if_pos k1];simp
  rw [if_neg k1]
  by_cases k2:b.1=2
  · rw [if_pos k2]
    unfold itemP at hi
    rw [if_neg k0,if_neg k1,if_pos k2] at hi
    have hi:=of_decide_eq_true hi
    obtain ⟨_,_,hs,_⟩:=netP_all h
    have:=(hs b.2.1.toNat (by omega)).1
    rcases this with q | q<;>omega
  rw [if_neg k2]
  exact pinsP_len h (item3 hi k0 k1 k2).2
theorem pinN_impl {n:Net} {b:Blk} (hb:NetB n) (h:netP n=true) (hi:itemP n b=true) (hl:b.2.2.length<=1048576):impl_pinNodes (n,b)=some (pinN n b):=by
  by_cases k3:b.1=3
  · have hls:=(item3 hi (by omega) (by omega) (by omega)).2
    rw [pins3_impl hb h hls hl k3]
    unfold pinN
    rw [if_neg (by omega),if_neg (by omega),if_neg (by omega)]
  unfold impl_pinNodes pinN
  unfold itemP at hi
  try dsimp only
  by_cases k0:b.1=0
  · rw [dt k0,if_pos k0];rfl
  rw [if_neg k0] at hi
  rw [df k0,cond_false,if_neg k0]
  by_cases k1:b.1=1
  · rw [if_pos k1] at hi
    have hi:=of_decide_eq_true hi
    rw [dt k1,cond_true,if_pos k1,gget_ns hi.1 hi.2];rfl
  rw [if_neg k1] at hi
  rw [df k1,cond_false,if_neg k1]
  by_cases k2:b.1=2
  · rw [if_pos k2] at hi
    have hi:=of_decide_eq_true hi
    have hk:b.2.1.toNat<n.2.1.length:=by omega
    obtain ⟨g1,g2⟩:=sq_get hk
    have e1:((b.2.1.toNat:Nat):Int)=b.2.1:=by omega
    rw [e1] at g1
    have hlen:=hb.1.at g2
    rw [dt k2,cond_true,if_pos k2,g1]
    simp only [Option.bind_some]
    unfold impl_copyInts
    rw [gapp_ok (by simp;omega)];rfl
  · rw [if_neg k2,if_neg k3] at hi;simp at hi
theorem pinNodes_spec (n:Net) (b:Blk) (hb:NetB n) (hl:b.2.2.length<=1048576):spec_PinNodes (n,b)=some (if (netP n && itemP n b)=true then pinN n b else []):=by
  unfold spec_PinNodes
  rw [known_spec n b hb hl]
  simp only [Option.bind_some]
  cases hk:(netP n && itemP n b) with
  | false=>rfl
  | true=>
    rw [Bool.and_eq_true] at hk
    obtain ⟨hn,hi⟩:=hk
    rw [Bool.not_true,cond_false,if_pos rfl]
    have hi' :=hi
    unfold itemP at hi
    unfold pinN
    by_cases k0:b.1=0
    · rw [dt k0,if_pos k0];rfl
    rw [if_neg k0] at hi
    rw [df k0,cond_false,if_neg k0]
    by_cases k1:b.1=1
    · rw [if_pos k1] at hi
      have hi:=of_decide_eq_true hi
      rw [dt k1,cond_true,if_pos k1,gget_ns hi.1 hi.2];rfl
    rw [if_neg k1] at hi
    rw [df k1,cond_false,if_neg k1]
    by_cases k2:b.1=2
    · rw [if_pos k2] at hi
      have hi:=of_decide_eq_true hi
      have hk:b.2.1.toNat<n.2.1.length:=by omega
      obtain ⟨g1,g2⟩:=sq_get hk
      have e1:((b.2.1.toNat:Nat):Int)=b.2.1:=by omega
      rw [e1] at g1
      have hlen:=hb.1.at g2
      rw [dt k2,cond_true,if_pos k2,g1]
      simp only [Option.bind_some]
      rw [gapp_ok (by simp;omega)];rfl
    rw [df k2,cond_false,if_neg k2,pins_spec hb hn (item3 hi' k0 k1 k2).2 hl];rfl
def blk0 (n:Net) (b:Blk):Bool:=
  if b.1=3 then decide (b.2.1=0/\(1<=b.2.2.length/\b.2.2.length<=2)/\(pinsP n b.2.2).length<=5) else decide (b.2.2.length=0/\(b.1=2->(sqAt n.2.1 b.2.1.toNat).1=1))
def blkP (n:Net) (b:Blk):Bool:=(netP n && itemP n b) && blk0 n b
theorem blk_spec (n:Net) (b:Blk) (hb:NetB n) (hl:b.2.2.length<=1048576):spec_BlockOk (n,b)=some (blkP n b):=by
  unfold spec_BlockOk blkP
  rw [known_spec n b hb hl]
  simp only [Option.bind_some]
  cases hk:(netP n && itemP n b) with
  | false=>rfl
  | true=>
    rw [Bool.and_eq_true] at hk
    obtain ⟨hn,hi⟩:=hk
    rw [Bool.not_true,cond_false,Bool.true_and]
    unfold blk0
    by_cases k3:b.1=3
    · have hls:=(item3 hi (by omega) (by omega) (by omega)).2
      rw [dt k3,cond_true,if_pos k3]
      by_cases c0:b.2.1=0
      rotate_left
      · rw [df c0,df (show ¬(b.2.1=0/\_) from fun e=>c0 e.1)];rfl
      rw [dt c0,cond_true,inR_spec]
      simp only [Option.bind_some]
      by_cases c1:1<=(b.2.2.length:Int)/\(b.2.2.length:Int)<=2
      rotate_left
      · rw [df c1,df (show ¬(b.2.1=0/\(1<=b.2.2.length/\b.2.2.length<=2)/\_) from fun e=>c1 (by have:=e.2.1;omega))];rfl
      rw [dt c1,cond_true,pins_spec hb hn hls hl]
      simp only [Option.bind_some]
      congr 1
      rw [decide_eq_decide]
      exact ⟨fun e=>⟨c0,by omega,by omega⟩,fun e=>by have:=e.2.2;omega⟩
    · rw [df k3,cond_false,if_neg k3]
      by_cases c0:(b.2.2.length:Int)=0
      rotate_left
      · rw [df c0,df (show ¬(b.2.2.length=0/\_) from fun e=>c0 (by have:=e.1;omega))];rfl
      rw [dt c0,cond_true]
      by_cases k2:b.1≠2
      · rw [dt k2,cond_true,dt (show b.2.2.length=0/\(b.1=2->(sqAt n.2.1 b.2.1.toNat).1=1) from ⟨by omega,fun e=>absurd e k2⟩)]
      · have k2:b.1=2:=Decidable.byContradiction k2
        unfold itemP at hi
        rw [if_neg (by omega),if_neg (by omega),if_pos k2] at hi
        have hi:=of_decide_eq_true hi
        have hk:b.2.1.toNat<n.2.1.length:=by omega
        obtain ⟨g1,g2⟩:=sq_get hk
        have e1:((b.2.1.toNat:Nat):Int)=b.2.1:=by omega
        rw [e1] at g1
        rw [df (fun e=>e k2),cond_false,g1]
        simp only [Option.bind_some]
        congr 1
        rw [decide_eq_decide]
        exact ⟨fun e=>⟨by omega,fun _=>e⟩,fun e=>e.2 k2⟩
end Go.Pf
