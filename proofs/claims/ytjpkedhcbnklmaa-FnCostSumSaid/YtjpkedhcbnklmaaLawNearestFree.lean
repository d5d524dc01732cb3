/-
  Own work. The law of the nearest free tile, plainly: it says true.
-/
import Derived.Test.YtjpkedhcbnklmaaPla
import Derived.Test.YtjpkedhcbnklmaaHlp
namespace Go.Pf
open Go Go.Pu
def tilesTo (d:Dev) (k:Int) (n:Nat):List Int:=((List.range n).map fun (t:Nat)=>(t:Int)).filter fun t=>decide (tkp d t=k)
theorem tilesTo_succ (d:Dev) (k:Int) (n:Nat):tilesTo d k (n+1)=if tkp d n=k then tilesTo d k n++[(n:Int)] else tilesTo d k n:=by
  unfold tilesTo
  rw [List.range_succ,List.map_append,List.filter_append]
  by_cases h:tkp d n=k
  · rw [if_pos h];simp [h]
  · rw [if_neg h];simp [h]
theorem tilesTo_len (d:Dev) (k:Int) (n:Nat):(tilesTo d k n).length<=n:=by
  unfold tilesTo
  refine Nat.le_trans (List.length_filter_le _ _) ?_
  simp
def tilesP (d:Dev) (k:Int):List Int:=if DOk d then tilesTo d k (d.1*d.2.1).toNat else []
theorem tiles_spec (d:Dev) (k:Int):spec_TilesOf (d,k)=some (tilesP d k):=by
  unfold spec_TilesOf tilesP
  simp only [devOk_spec,Option.bind_some]
  by_cases h:DOk d
  · rw [dt h,if_pos h]
    simp only [Bool.not_true,cond_false]
    have hm:=mul_le36 h.1 h.2.1
    refine loop_upto (d.1*d.2.1).toNat (fun n=>((n:Int),tilesTo d k n)) (fun n hn=> ?_) ?_
    · have hl:=tilesTo_len d k n
      have e:tk d n=tkp d n:=by unfold tk;rw [if_pos ⟨h,by omega,by omega⟩]
      dsimp only
      rw [wrap_ok (z:=d.1*d.2.1) (by omega),dt (by omega),cond_true,tk_spec d n (by omega),e,tilesTo_succ]
      simp only [Option.bind_some]
      by_cases q:tkp d n=k
      · rw [dt q,cond_true,if_pos q,gapp_some (by simp;omega) (by simp;omega)]
        simp only [Option.bind_some]
        rw [wrap_ok (by omega)];rfl
      · rw [df q,cond_false,if_neg q,wrap_ok (by omega)];rfl
    · dsimp only
      rw [wrap_ok (z:=d.1*d.2.1) (by omega),df (by omega),cond_false];rfl
  · rw [df h,if_neg h];rfl
theorem tilesP_len (d:Dev) (k:Int):(tilesP d k).length<=36:=by
  unfold tilesP
  split
  · rename_i h
    have hm:=mul_le36 h.1 h.2.1
    have:=tilesTo_len d k (d.1*d.2.1).toNat
    omega
  · simp
end Go.Pf
