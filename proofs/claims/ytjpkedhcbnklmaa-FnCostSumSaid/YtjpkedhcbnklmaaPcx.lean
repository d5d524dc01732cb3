/-
  Own work. Packing, plainly: both functions.
-/
import Derived.Test.YtjpkedhcbnklmaaPcs
namespace Go.Pf
open Go Go.Pu
set_option linter.unusedVariables false
def pdA:Nat->List Blk
  | 0=>[]
  | k+1=>pdA k++[(0,((k:Int),[]))]
def otA (n:Net):Nat->List Blk
  | 0=>pdA n.1.toNat
  | k+1=>otA n k++[(1,((k:Int),[]))]
def sqA (n:Net):Nat->List Blk
  | 0=>otA n n.2.2.2.length
  | k+1=>if (sqAt n.2.1 k).1=1 then sqA n k++[(2,((k:Int),[]))] else sqA n k
def B2 (bs:List Blk):Prop:=∀b∈bs,b.2.2.length<=2
theorem B2.app {bs:List Blk} (h:B2 bs) {x:Blk} (hx:x.2.2.length<=2):B2 (bs++[x]):=fun b hb=>by
  rcases List.mem_append.1 hb with q | q
  · exact h b q
  · rw [List.mem_singleton] at q;rw [q];exact hx
theorem pdA_ok (k:Nat):(pdA k).length=k/\B2 (pdA k):=by
  induction k with
  | zero=>exact ⟨rfl,fun b hb=>by cases hb⟩
  | succ k ih=>
    show (pdA k++[(0,((k:Int),[]))]).length=_/\B2 (pdA k++[(0,((k:Int),[]))])
    exact ⟨by rw [List.length_append];simp only [List.length_cons,List.length_nil];omega,ih.2.app (by simp)⟩
theorem otA_ok (n:Net) (k:Nat):(otA n k).length=n.1.toNat+k/\B2 (otA n k):=by
  induction k with
  | zero=>exact pdA_ok _
  | succ k ih=>
    show (otA n k++[(1,((k:Int),[]))]).length=_/\B2 (otA n k++[(1,((k:Int),[]))])
    exact ⟨by rw [List.length_append];simp only [List.length_cons,List.length_nil];omega,ih.2.app (by simp)⟩
theorem sqA_ok (n:Net) (k:Nat):(sqA n k).length<=n.1.toNat+n.2.2.2.length+k/\B2 (sqA n k):=by
  induction k with
  | zero=>
    have:=otA_ok n n.2.2.2.length
    exact ⟨by show (otA n n.2.2.2.length).length<=_;omega,this.2⟩
  | succ k ih=>
    show (if (sqAt n.2.1 k).1=1 then sqA n k++[(2,((k:Int),[]))] else sqA n k).length<=_/\B2 (if (sqAt n.2.1 k).1=1 then sqA n k++[(2,((k:Int),[]))] else sqA n k)
    split
    · exact ⟨by rw [List.length_append];simp only [List.length_cons,List.length_nil];omega,ih.2.app (by simp)⟩
    · exact ⟨by omega,ih.2⟩
theorem pack_run (n:Net) (hb:NetB n):∃o:List Blk×Bool,impl_Pack n=some o/\spec_Pack n=some o/\o.1.length<=64/\B2 o.1:=by
  cases hn:netP n with
  | false=>
    refine ⟨([],false),?_,?_,by simp,fun b hb=>by cases hb⟩
    · unfold impl_Pack
      rw [net_impl n hb,hn];rfl
    · unfold spec_Pack
      rw [net_spec n hb,hn];rfl
  | true=>
    obtain ⟨hln,_⟩:=netP_all hn
    obtain ⟨l1,l2,l3,l4⟩:=hln
    obtain ⟨hel,heo⟩:=elL_ok hn n.2.2.1.length (Nat.le_refl _)
    change (elP n).length<=_ at hel
    change ∀e∈elP n,leOk n e at heo
    obtain ⟨hsq,hs2⟩:=sqA_ok n n.2.1.length
    obtain ⟨out,hp⟩:=packs_ex hn (elP n).length (sqA n n.2.1.length) (elP n) (Nat.le_refl _) heo
    have hg:=(packs_grow hp).2.2 hs2
    refine ⟨finP out,?_,?_,?_,?_⟩
    · unfold impl_Pack
      rw [net_impl n hb,hn]
      simp only [Option.bind_some]
      rw [Bool.not_true,cond_false]
      refine loop_upto n.1.toNat (fun k=>(pdA k,(k:Int))) (fun k hk=> ?_) ?_
      · have hpl:=(pdA_ok k).1
        try dsimp only
        rw [dt (show (k:Int)<n.1 by omega),cond_true,gapp40 (by simp only [List.length_cons,List.length_nil];omega)]
        simp only [Option.bind_some]
        rw [wrap_ok (by omega)];rfl
      try dsimp only
      rw [df (show ¬((n.1.toNat:Nat):Int)<n.1 by omega),cond_false]
      refine mapS ?_
      refine loop_upto n.2.2.2.length (fun k=>((k:Int),otA n k)) (fun k hk=> ?_) ?_
      · have hpl:=(otA_ok n k).1
        try dsimp only
        rw [dt (show (k:Int)<(n.2.2.2.length:Int) by omega),cond_true,gapp40 (by simp only [List.length_cons,List.length_nil];omega)]
        simp only [Option.bind_some]
        rw [wrap_ok (by omega)];rfl
      try dsimp only
      rw [df (show ¬(n.2.2.2.length:Int)<(n.2.2.2.length:Int) by omega),cond_false]
      refine mapS ?_
      refine loop_upto n.2.1.length (fun k=>((k:Int),sqA n k)) (fun k hk=> ?_) ?_
      · have hpl:=(sqA_ok n k).1
        try dsimp only
        rw [dt (show (k:Int)<(n.2.1.length:Int) by omega),cond_true,(sq_get hk).1]
        simp only [Option.bind_some]
        show _=some (Sum.inl (((k+1:Nat):Int),if (sqAt n.2.1 k).1=1 then sqA n k++[(2,((k:Int),[]))] else sqA n k))
        by_cases c:(sqAt n.2.1 k).1=1
        · rw [dt c,cond_true,if_pos c,gapp40 (by simp only [List.length_cons,List.length_nil];omega)]
          simp only [Option.bind_some]
          rw [wrap_ok (by omega)];rfl
        · rw [df c,cond_false,if_neg c,wrap_ok (by omega)];rfl
      try dsimp only
      rw [df (show ¬(n.2.1.length:Int)<(n.2.1.length:Int) by omega),cond_false]
      refine mapS ?_
      rw [el_impl hb hn]
      simp only [Option.bind_some]
      exact pkF_run hb hn hp heo (by omega)
    · unfold spec_Pack
      rw [net_spec n hb,hn]
      simp only [Option.bind_some]
      rw [Bool.not_true,cond_false]
      refine loop_upto n.1.toNat (fun k=>((k:Int),pdA k)) (fun k hk=> ?_) ?_
      · have hpl:=(pdA_ok k).1
        try dsimp only
        rw [dt (show (k:Int)<n.1 by omega),cond_true,gapp40 (by simp only [List.length_cons,List.length_nil];omega)]
        simp only [Option.bind_some]
        rw [wrap_ok (by omega)];rfl
      try dsimp only
      rw [df (show ¬((n.1.toNat:Nat):Int)<n.1 by omega),cond_false]
      refine mapS ?_
      refine loop_upto n.2.2.2.length (fun k=>((k:Int),otA n k)) (fun k hk=> ?_) ?_
      · have hpl:=(otA_ok n k).1
        try dsimp only
        rw [dt (show (k:Int)<(n.2.2.2.length:Int) by omega),cond_true,gapp40 (by simp only [List.length_cons,List.length_nil];omega)]
        simp only [Option.bind_some]
        rw [wrap_ok (by omega)];rfl
      try dsimp only
      rw [df (show ¬(n.2.2.2.length:Int)<(n.2.2.2.length:Int) by omega),cond_false]
      refine mapS ?_
      refine loop_upto n.2.1.length (fun k=>((k:Int),sqA n k)) (fun k hk=> ?_) ?_
      · have hpl:=(sqA_ok n k).1
        try dsimp only
        rw [dt (show (k:Int)<(n.2.1.length:Int) by omega),cond_true,(sq_get hk).1]
        simp only [Option.bind_some]
        show _=some (Sum.inl (((k+1:Nat):Int),if (sqAt n.2.1 k).1=1 then sqA n k++[(2,((k:Int),[]))] else sqA n k))
        by_cases c:(sqAt n.2.1 k).1=1
        · rw [dt c,cond_true,if_pos c,gapp40 (by simp only [List.length_cons,List.length_nil];omega)]
          simp only [Option.bind_some]
          rw [wrap_ok (by omega)];rfl
        · rw [df c,cond_false,if_neg c,wrap_ok (by omega)];rfl
      try dsimp only
      rw [df (show ¬(n.2.1.length:Int)<(n.2.1.length:Int) by omega),cond_false]
      refine mapS ?_
      rw [el_spec hb hn]
      simp only [Option.bind_some]
      rw [gmake_nat (by omega) (by omega)]
      simp only [Option.bind_some]
      have hU:∀j,bAt (List.replicate (elP n).length false) j=false:=fun j=>by
        unfold bAt
        rw [List.getD,List.getElem?_replicate]
        split<;>rfl
      have hl:(lft (elP n).length (List.replicate (elP n).length false) 0).map (leAt (elP n))=elP n:=by
        unfold lft
        rw [List.filter_eq_self.2 (fun j _=>by rw [hU j];rfl)]
        refine List.ext_getElem (by simp) fun j h1 h2=> ?_
        simp only [List.getElem_map,List.getElem_range',Nat.zero_add,Nat.one_mul]
        exact (le_eq h2).symm
      refine pkG_run hb hn (elP n) heo (by omega) (elP n).length 0 _ _ out (by omega) (by simp) (by omega) ?_
      rw [hl];exact hp
    · unfold finP
      split
      · simp
      · simp only;omega
    · unfold finP
      split
      · exact fun b hb=>by cases hb
      · exact hg
end Go.Pf
