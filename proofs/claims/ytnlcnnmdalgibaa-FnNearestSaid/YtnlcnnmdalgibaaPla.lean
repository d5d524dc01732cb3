/-
  Own work. Placements, plainly.
-/
import Derived.Test.YtnlcnnmdalgibaaDvc
namespace Go.Pf
open Go Go.Pu

theorem has_impl (xs : List Int) (x : Int) (h : xs.length ≤ 4611686018427387904) : impl_hasInt (xs, x) = some (decide (x ∈ xs)) := by
  unfold impl_hasInt
  dsimp only
  have e := loop_all (f := fun (v2 : Int) =>
    let v3 : Bool := decide (v2 < (xs.length : Int))
    bif v3 then (
      (gget 0 xs v2).bind fun v4 =>
      let v5 : Bool := decide (v4 = x)
      bif v5 then (
        Option.map Sum.inr (
          some true)) else
      let v6 : Int := wrap .i64 (v2 + 1)
      some (.inl v6)) else
    Option.map Sum.inr (
      some false)) xs.length (fun k => (k : Int)) (fun k => if hk : k < xs.length then decide (xs[k] ≠ x) else true) true false (fun k hk hok => by
      rw [dif_pos hk] at hok
      have hne := of_decide_eq_true hok
      dsimp only
      rw [dt (by omega), cond_true, gget_nat hk]
      simp only [Option.bind_some]
      rw [df hne, cond_false, wrap_ok (by omega)]; rfl) (fun k hk hok => by
      rw [dif_pos hk] at hok
      have he := of_decide_eq_false hok
      dsimp only
      rw [dt (by omega), cond_true, gget_nat hk]
      simp only [Option.bind_some]
      rw [dt (by simpa using he), cond_true]; rfl) (by
      dsimp only
      rw [df (by omega), cond_false]; rfl)
  rw [all_range_list xs (fun y => decide (y ≠ x)) _ (fun k hk => by rw [dif_pos hk])] at e
  refine Eq.trans e ?_
  congr 1
  by_cases hm : x ∈ xs
  · rw [dt hm, if_neg]
    intro ha
    rw [List.all_eq_true] at ha
    exact of_decide_eq_true (ha x hm) rfl
  · rw [df hm, if_pos]
    rw [List.all_eq_true]
    intro y hy
    exact decide_eq_true (fun e => hm (e ▸ hy))
theorem has_spec (xs : List Int) (x : Int) (h : xs.length ≤ 4611686018427387904) : spec_l13Has (xs, x) = some (decide (x ∈ xs)) := has_impl xs x h

end Go.Pf

