/-
  Own work. The span of a connection, plainly.
-/
import Derived.Test.YtjpkedhcbnklmaaDvc
import Derived.Test.YtjpkedhcbnklmaaHlp
namespace Go.Pf
open Go Go.Pu
set_option linter.unusedVariables false
def psV (ps:List Int) (i:Int):Int:=ps.getD i.toNat 0
theorem psV_le {ps:List Int} (h:∀p∈ps,p<=9223372036854775807) (i:Int):psV ps i<=9223372036854775807:=by
  unfold psV
  by_cases hi:i.toNat<ps.length
  · rw [List.getD,List.getElem?_eq_getElem hi];exact h _ (List.getElem_mem hi)
  · rw [List.getD,List.getElem?_eq_none (by omega)];simp
def spS (d:Dev) (ps:List Int) (s:Int×(Int×(Int×Int))) (p:Pin):Int×(Int×(Int×Int)):=
  let x:=psV ps p.1 % d.1
  let y:=psV ps p.1/d.1
  (if x<s.1 then x else s.1,(if s.2.1<x then x else s.2.1,(if y<s.2.2.1 then y else s.2.2.1,if s.2.2.2<y then y else s.2.2.2)))
def spT (d:Dev) (ps:List Int) (ns:List Pin) (s:Int×(Int×(Int×Int))) (k:Nat):Int×(Int×(Int×Int)):=(ns.take k).foldl (spS d ps) s
theorem spT_succ (d:Dev) (ps:List Int) (ns:List Pin) (s:Int×(Int×(Int×Int))) (k:Nat) (h:k<ns.length):spT d ps ns s (k+1)=spS d ps (spT d ps ns s k) ns[k]:=by
  unfold spT;rw [take_succ' ns k h,List.foldl_append];rfl
def pinIn (d:Dev) (ps:List Int) (p:Pin):Prop:=(0<=p.1/\p.1<(ps.length:Int))/\0<=tk d (psV ps p.1)
instance (d:Dev) (ps:List Int) (p:Pin):Decidable (pinIn d ps p):=by unfold pinIn;exact inferInstance
theorem tk_ok {d:Dev} {t:Int} (h:0<=tk d t):DOk d/\0<=t/\t<d.1*d.2.1:=by
  unfold tk at h
  split at h
  · rename_i q;exact q
  · omega
theorem tk_ok' {d:Dev} {t:Int} (h:DOk d/\0<=t/\t<d.1*d.2.1):0<=tk d t:=by
  unfold tk;rw [if_pos h];exact tkp_ge d t
theorem tile_co {d:Dev} {t:Int} (h:DOk d/\0<=t/\t<d.1*d.2.1):(0<=t % d.1/\t % d.1<d.1)/\(0<=t/d.1/\t/d.1<d.2.1):=by
  obtain ⟨hd,h0,h1⟩:=h
  have hw:=hd.1
  exact ⟨⟨Int.emod_nonneg _ (by omega),Int.emod_lt_of_pos _ (by omega)⟩,⟨Int.ediv_nonneg h0 (by omega),Int.ediv_lt_of_lt_mul (by omega) (by rw [Int.mul_comm];exact h1)⟩⟩
def spFin (s:Int×(Int×(Int×Int))):Int:=wrap .i64 (wrap .i64 (wrap .i64 (s.2.1 - s.1)+s.2.2.2) - s.2.2.1)
def spanP (d:Dev) (ps:List Int) (c:Conn):Int:=
  if DOk d/\((c.2.1::c.2.2).all fun p=>decide (pinIn d ps p))=true then spFin (spT d ps (c.2.1::c.2.2) (6,(-1,(6,-1))) (c.2.1::c.2.2).length) else -1
theorem gapp16 {xs ys:List Pin} (h:xs.length+ys.length<=1000000000):gapp 16 xs ys=some (xs++ys):=gapp_some (by omega) (by omega)
theorem span_impl (d:Dev) (ps:List Int) (c:Conn) (hp:∀p∈ps,p<=9223372036854775807) (hpl:ps.length<=1048576) (hl:c.2.2.length<=1048576):impl_ConnSpan (d,(ps,c))=some (spanP d ps c):=by
  obtain ⟨c1,p0,ss⟩:=c
  simp only at hl
  unfold impl_ConnSpan spanP
  dsimp only
  rw [devOk_impl]
  simp only [Option.bind_some]
  by_cases hd:DOk d
  rotate_left
  · rw [df hd,if_neg (fun e=>hd e.1)];rfl
  have epins:impl_pinsOf (c1,(p0,ss))=some (p0::ss):=by
    unfold impl_pinsOf
    dsimp only
    rw [gapp16 (by simp;omega)];rfl
  rw [dt hd,epins]
  simp only [Bool.not_true,cond_false,Option.bind_some]
  have hw:=hd.1
  generalize hns:p0::ss=ns
  have hnl:ns.length<=1048577:=by rw [<-hns];simp;omega
  refine Eq.trans (loop_all ns.length (fun k:Nat=>let s:=spT d ps ns (6,(-1,(6,-1))) k;(s.1,(s.2.1,(s.2.2.1,(s.2.2.2,(k:Int)))))) (fun k=>if h:k<ns.length then decide (pinIn d ps ns[k]) else true) (-1) (spFin (spT d ps ns (6,(-1,(6,-1))) ns.length)) (fun k hk hok=> ?_) (fun k hk hok=> ?_) ?_) ?_
  · rw [dif_pos hk] at hok
    have q:=of_decide_eq_true hok
    have hq:=tk_ok q.2
    dsimp only
    rw [dt (by omega),cond_true,gin_nat hk,gget_nat hk]
    simp only [Option.bind_some]
    have q1:=q.1
    have q2:=q.2
    rw [wrap_ok (z:=(ps.length:Int) - 1) (by omega),inR_impl]
    simp only [Option.bind_some]
    rw [dt (by omega),gget_some q1.1 q1.2]
    simp only [Bool.not_true,cond_false,Option.bind_some]
    rw [tileOk_impl]
    have e2:=grem_nn (a:=psV ps (ns[k]).1) (b:=d.1) hq.2.1 (by omega)
    have e3:=gdiv_nn (a:=psV ps (ns[k]).1) (b:=d.1) hq.2.1 (psV_le hp _) (by omega)
    rw [spT_succ _ _ _ _ _ hk]
    unfold spS psV at*
    rw [dt hq,e2,e3]
    simp only [Bool.not_true,cond_false,Option.bind_some]
    rw [wrap_ok (by omega)];rfl
  · rw [dif_pos hk] at hok
    have q:=of_decide_eq_false hok
    dsimp only
    rw [dt (by omega),cond_true,gin_nat hk,gget_nat hk]
    simp only [Option.bind_some]
    rw [wrap_ok (z:=(ps.length:Int) - 1) (by omega),inR_impl]
    simp only [Option.bind_some]
    by_cases h0:0<=(ns[k]).1/\(ns[k]).1<(ps.length:Int)
    · rw [dt (by omega),gget_some h0.1 h0.2]
      simp only [Bool.not_true,cond_false,Option.bind_some]
      rw [tileOk_impl]
      have h2:¬(DOk d/\0<=psV ps (ns[k]).1/\psV ps (ns[k]).1<d.1*d.2.1):=fun c=>q ⟨h0,tk_ok' c⟩
      unfold psV at h2
      rw [df h2];rfl
    · rw [df (by omega)];rfl
  · dsimp only
    rw [df (by omega),cond_false];rfl
  · rw [all_range_list ns (fun p=>decide (pinIn d ps p)) _ (fun k hk=>by rw [dif_pos hk])]
    by_cases ha:(ns.all fun p=>decide (pinIn d ps p))=true
    · rw [if_pos ha,if_pos ⟨hd,ha⟩]
    · rw [if_neg ha,if_neg (fun e=>ha e.2)]
end Go.Pf
