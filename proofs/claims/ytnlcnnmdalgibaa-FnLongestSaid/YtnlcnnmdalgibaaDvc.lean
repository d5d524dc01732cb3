/-
  Own work. The device's functions, plainly.
-/
import Derived.Test.YtnlcnnmdalgibaaPbA
import Derived.Test.YtnlcnnmdalgibaaPln
import Derived.Test.YtnlcnnmdalgibaaD
namespace Go.Pf
open Go Go.Pu

theorem inR_spec (x a b : Int) : spec_l01In (x, (a, b)) = some (decide (a ≤ x ∧ x ≤ b)) := by
  unfold spec_l01In
  dsimp only
  by_cases h : a ≤ x
  · rw [dt h, cond_true]; by_cases h2 : x ≤ b
    · rw [dt h2, dt ⟨h, h2⟩]
    · rw [df h2, df (fun e => h2 e.2)]
  · rw [df h, cond_false, df (fun e => h e.1)]
theorem inR_impl (x a b : Int) : impl_inRange (x, (a, b)) = some (decide (a ≤ x ∧ x ≤ b)) := inR_spec x a b

def DOk (d : Int × (Int × (Int × Int))) : Prop := (3 ≤ d.1 ∧ d.1 ≤ 6) ∧ (3 ≤ d.2.1 ∧ d.2.1 ≤ 6) ∧ (1 ≤ d.2.2.1 ∧ d.2.2.1 ≤ 4) ∧ (d.2.2.2 = -1 ∨ (1 ≤ d.2.2.2 ∧ d.2.2.2 ≤ d.1 - 2))
instance (d : Int × (Int × (Int × Int))) : Decidable (DOk d) := by unfold DOk; exact inferInstance
theorem grem_nn {a b : Int} (ha : 0 ≤ a) (hb : 0 < b) : grem a b = some (a % b) := by
  unfold grem; rw [if_neg (by omega), Int.tmod_eq_emod_of_nonneg ha]
def tkp (d : Int × (Int × (Int × Int))) (t : Int) : Int :=
  if t % d.1 = 0 ∨ t / d.1 = 0 ∨ t % d.1 = d.1 - 1 ∨ t / d.1 = d.2.1 - 1 then 0 else if t % d.1 = d.2.2.2 then 2 else 1
def tk (d : Int × (Int × (Int × Int))) (t : Int) : Int := if DOk d ∧ 0 ≤ t ∧ t < d.1 * d.2.1 then tkp d t else -1
end Go.Pf

