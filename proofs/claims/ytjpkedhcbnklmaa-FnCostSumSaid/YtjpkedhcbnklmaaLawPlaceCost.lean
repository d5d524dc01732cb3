/-
  Own work. The law of a placement's cost, plainly: it says true.
-/
import Derived.Test.YtjpkedhcbnklmaaCns
import Derived.Test.YtjpkedhcbnklmaaLawConnsOk
namespace Go.Pf
open Go Go.Pu
def csum (d:Dev) (ps:List Int) (cs:List Conn) (k:Nat):Int:=(cs.take k).foldl (fun s c=>wrap .i64 (s+spanP d ps c)) 0
theorem csum_succ (d:Dev) (ps:List Int) (cs:List Conn) (k:Nat) (h:k<cs.length):csum d ps cs (k+1)=wrap .i64 (csum d ps cs k+spanP d ps cs[k]):=by
  unfold csum;rw [take_succ' cs k h,List.foldl_append];rfl
def costP (d:Dev) (ps:List Int) (cs:List Conn):Int:=
  if cnsP ps.length cs=true then (if (cs.all fun c=>decide (0<=spanP d ps c))=true then csum d ps cs cs.length else -1) else -1
theorem cnsP_len {n:Int} {cs:List Conn} (h:cnsP n cs=true):(0<=n/\n<=64)/\cs.length<=100:=by
  unfold cnsP at h;rw [Bool.and_eq_true] at h;exact of_decide_eq_true h.1
theorem cnsP_mem {n:Int} {cs:List Conn} (h:cnsP n cs=true) {c:Conn} (hc:c∈cs):(1<=c.2.2.length/\c.2.2.length<=120)/\pinP n c.2.1/\∀p∈c.2.2,pinP n p:=by
  unfold cnsP at h;rw [Bool.and_eq_true,List.all_eq_true] at h
  have:=h.2 c hc
  unfold cnP at this
  rw [Bool.and_eq_true,List.all_eq_true] at this
  have h1:=of_decide_eq_true this.1
  exact ⟨h1.1,h1.2,fun p hp=>of_decide_eq_true (this.2 p hp)⟩
theorem cost_impl (d:Dev) (ps:List Int) (cs:List Conn) (hp:∀p∈ps,p<=9223372036854775807):impl_PlaceCost (d,(ps,cs))=some (costP d ps cs):=by
  unfold impl_PlaceCost costP
  dsimp only
  rw [cns_impl]
  simp only [Option.bind_some]
  by_cases h:cnsP ps.length cs=true
  rotate_left
  · rw [if_neg h];rw [Bool.not_eq_true] at h;rw [h];rfl
  rw [if_pos h,h]
  simp only [Bool.not_true,cond_false]
  have hl:=cnsP_len h
  refine Eq.trans (loop_all cs.length (fun k:Nat=>(csum d ps cs k,(k:Int))) (fun k=>if h:k<cs.length then decide (0<=spanP d ps cs[k]) else true) (-1) (csum d ps cs cs.length) (fun k hk hok=> ?_) (fun k hk hok=> ?_) ?_) ?_
  · rw [dif_pos hk] at hok
    have q:=of_decide_eq_true hok
    have hm:=cnsP_mem h (List.getElem_mem hk)
    dsimp only
    rw [dt (by omega),cond_true,gget_nat hk]
    simp only [Option.bind_some]
    rw [span_impl d ps cs[k] hp (by omega) (by omega),csum_succ _ _ _ _ hk]
    simp only [Option.bind_some]
    rw [df (by omega),cond_false,wrap_ok (z:=(k:Int)+1) (by omega)];rfl
  · rw [dif_pos hk] at hok
    have q:=of_decide_eq_false hok
    have hm:=cnsP_mem h (List.getElem_mem hk)
    dsimp only
    rw [dt (by omega),cond_true,gget_nat hk]
    simp only [Option.bind_some]
    rw [span_impl d ps cs[k] hp (by omega) (by omega)]
    simp only [Option.bind_some]
    rw [dt (by omega)];rfl
  · dsimp only
    rw [df (by omega),cond_false];rfl
  · rw [all_range_list cs (fun c=>decide (0<=spanP d ps c)) _ (fun k hk=>by rw [dif_pos hk])]
end Go.Pf
