/-
  Own work. Plain lemmas on loops, lists and wrapped integers (no program in sight).
-/
import Derived.Test.YtjpkedhcbnklmaaPu3
namespace Go.Pu
open Go
theorem loop_spec {σ ω:Type} {f:σ->Option (σ⊕ω)} (I:σ->Prop) (Q:ω->Prop) (μ:σ->Nat) (h:∀s,I s->(∃s',f s=some (.inl s')/\I s'∧μ s' <μ s)\/(∃o,f s=some (.inr o)/\Q o)):
    ∀s,I s->∃o,loop f s=some o/\Q o:=by
  have key:∀n s,μ s<n->I s->∃o,loop f s=some o/\Q o:=by
    intro n
    induction n with
    | zero=>intro s hs;omega
    | succ n ih=>
      intro s hs hi
      rcases h s hi with ⟨s',h1,h2,h3⟩ | ⟨o,h1,h2⟩
      · obtain ⟨o,h4,h5⟩:=ih s' (by omega) h2
        exact ⟨o,by rw [loop_eq,h1];exact h4,h5⟩
      · exact ⟨o,by rw [loop_eq,h1],h2⟩
  exact fun s hi=>key _ s (Nat.lt_succ_self _) hi
theorem wrap_id {z:Int} (h1: -9223372036854775808<=z) (h2:z<=9223372036854775807):wrap .i64 z=z:=by
  unfold wrap IntKind.wrap
  simp [IntKind.bits,IntKind.signed]
  omega
theorem gget_some {α:Type} {d:α} {xs:List α} {i:Int} (h0:0<=i) (h1:i<(xs.length:Int)):gget d xs i=some (xs.getD i.toNat d):=by
  unfold gget;rw [if_pos ⟨h0,h1⟩]
theorem gin_some {n:Nat} {i:Int} (h0:0<=i) (h1:i<(n:Int)):gin n i=some ():=by
  unfold gin;rw [if_pos ⟨h0,h1⟩]
theorem gapp_some {α:Type} {b:Nat} {xs ys:List α} (h:(xs.length+ys.length)*b<=140737488355328) (h2:xs.length+ys.length<=140737488355328):gapp b xs ys=some (xs++ys):=by
  unfold gapp gfit;rw [if_pos (by simp [h,h2])]
end Go.Pu
