/-
  Own work. Paths by predecessors: the program's and the reference's, plainly.
-/
import Derived.Test.YtjpkedhcbnklmaaPln
namespace Go.Pf
open Go Go.Pu
noncomputable def revF (p : List Int) (v : Int × List Int) : Option ((Int × List Int) ⊕ List Int) :=
  let v14 : Bool := decide (0 ≤ v.1)
  bif v14 then (
    (gin (p).length v.1).bind fun _ =>
    (gget 0 p v.1).bind fun v16 =>
    let v17 : List Int := [v16]
    (gapp 8 v.2 v17).bind fun v18 =>
    let v19 : Int := wrap .i64 (v.1 - 1)
    some (.inl (v19, v18))) else
  Option.map Sum.inr (
    some v.2)
theorem rev_ok (p : List Int) : ∀ (n : Nat) (acc : List Int), n ≤ p.length → p.length ≤ 2097152 → acc.length + n ≤ 4194304 → loop (revF p) ((n : Int) - 1, acc) = some (acc ++ (p.take n).reverse)
  | 0, acc, _, _, _ => by
    rw [loop_eq]
    simp [revF]
  | n + 1, acc, hn, hp, ha => by
    rw [loop_eq]
    have e1 : decide ((0 : Int) ≤ ((n + 1 : Nat) : Int) - 1) = true := decide_eq_true (by omega)
    have hi : ((n + 1 : Nat) : Int) - 1 = (n : Int) := by omega
    simp only [revF, e1, cond_true]
    rw [hi, gin_some (by omega) (by omega), gget_some (by omega) (by omega)]
    simp only [Option.bind_some]
    rw [gapp_some (by simp; omega) (by simp; omega)]
    simp only [Option.bind_some]
    rw [wrap_id (by omega) (by omega)]
    rw [rev_ok p n _ (by omega) hp (by simp; omega)]
    have hlt : n < p.length := by omega
    have : p.take (n + 1) = p.take n ++ [p[n]] := by rw [List.take_append_getElem hlt]
    rw [this, List.reverse_append]
    simp [List.getD, hlt]
end Go.Pf

