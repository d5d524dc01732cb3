/-
  Own work. Plain lemmas on loops over lists (no program in sight).
-/
import Derived.Test.YtjpkedhcbnklmaaPl
namespace Go.Pf
open Go Go.Pu
theorem gget_nat {α:Type} {d:α} {xs:List α} {k:Nat} (h:k<xs.length):gget d xs (k:Int)=some (xs[k]'h):=by
  rw [gget_some (by omega) (by omega)]
  simp [List.getD,h]
theorem gin_nat {n k:Nat} (h:k<n):gin n (k:Int)=some ():=gin_some (by omega) (by omega)
theorem gset_nat {α:Type} (xs:List α) (k:Nat) (x:α):gset xs (k:Int) x=xs.set k x:=rfl
theorem dt {p:Prop} [Decidable p] (h:p):decide p=true:=decide_eq_true h
theorem df {p:Prop} [Decidable p] (h:¬p):decide p=false:=decide_eq_false h
theorem gmake_nat {α:Type} {b:Nat} {d:α} {n:Nat} (h:n*b<=140737488355328) (h2:n<=140737488355328):gmake b d (n:Int)=some (List.replicate n d):=by
  unfold gmake gfit
  rw [if_pos (by constructor;omega;simp;omega)]
  simp
theorem wrap_ok {z:Int} (h: -9223372036854775808<=z/\z<=9223372036854775807):wrap .i64 z=z:=wrap_id h.1 h.2
theorem loop_run {σ ω:Type} {f:σ->Option (σ⊕ω)} (S:Nat->σ) {o:ω}:∀(m n:Nat),(∀k,m<=k->k<m+n->f (S k)=some (.inl (S (k+1))))->f (S (m+n))=some (.inr o)->loop f (S m)=some o
  | m,0,_,h=>by rw [loop_eq,Nat.add_zero] at*;rw [h]
  | m,n+1,h1,h2=>by
    rw [loop_eq,h1 m (Nat.le_refl _) (by omega)]
    exact loop_run S (m+1) n (fun k q1 q2=>h1 k (by omega) (by omega)) (by rw [show m+1+n=m+(n+1) from by omega];exact h2)
theorem loop_upto {σ ω:Type} {f:σ->Option (σ⊕ω)} (n:Nat) (S:Nat->σ) {o:ω} (h1:∀k,k<n->f (S k)=some (.inl (S (k+1)))) (h2:f (S n)=some (.inr o)):loop f (S 0)=some o:=
  loop_run S 0 n (fun k _ h=>h1 k (by omega)) (by rw [Nat.zero_add];exact h2)
theorem loop_all {σ ω:Type} {f:σ->Option (σ⊕ω)} (n:Nat) (S:Nat->σ) (ok:Nat->Bool) (bad good:ω) (h1:∀k,k<n->ok k=true->f (S k)=some (.inl (S (k+1)))) (h2:∀k,k<n->ok k=false->f (S k)=some (.inr bad)) (h3:f (S n)=some (.inr good)):
    loop f (S 0)=some (if (List.range n).all ok then good else bad):=by
  have key:∀(m j:Nat),j+m=n->loop f (S j)=some (if (List.range' j m).all ok then good else bad):=by
    intro m
    induction m with
    | zero=>
      intro j hj;rw [loop_eq];have:j=n:=by omega
      subst this;rw [h3];simp
    | succ m ih=>
      intro j hj
      rw [loop_eq,List.range'_succ,List.all_cons]
      cases hok:ok j with
      | true=>rw [h1 j (by omega) hok];simp only [Bool.true_and];exact ih (j+1) (by omega)
      | false=>rw [h2 j (by omega) hok];simp
  have:=key n 0 (by omega)
  rw [this,List.range_eq_range']
theorem all_range_list {α:Type} (xs:List α) (p:α->Bool) (ok:Nat->Bool) (h:∀k (hk:k<xs.length),ok k=p xs[k]):(List.range xs.length).all ok=xs.all p:=by
  rw [Bool.eq_iff_iff,List.all_eq_true,List.all_eq_true]
  constructor
  · intro h1 x hx
    obtain ⟨k,hk,rfl⟩:=List.getElem_of_mem hx
    rw [<-h k hk];exact h1 k (List.mem_range.2 hk)
  · intro h1 k hk
    have hk:=List.mem_range.1 hk
    rw [h k hk];exact h1 _ (List.getElem_mem hk)
theorem take_succ' {α:Type} (xs:List α) (k:Nat) (h:k<xs.length):xs.take (k+1)=xs.take k++[xs[k]]:=(List.take_append_getElem h).symm
end Go.Pf
