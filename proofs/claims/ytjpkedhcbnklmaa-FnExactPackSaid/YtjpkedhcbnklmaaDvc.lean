/-
  Own work. The device's functions, plainly.
-/
import Derived.Test.YtjpkedhcbnklmaaPbA
import Derived.Test.YtjpkedhcbnklmaaPln
import Derived.Test.YtjpkedhcbnklmaaD
namespace Go.Pf
open Go Go.Pu

theorem inR_spec (x a b : Int) : spec_l01In (x, (a, b)) = some (decide (a ≤ x ∧ x ≤ b)) := by
  unfold spec_l01In
  dsimp only
  by_cases h : a ≤ x
  · rw [dt h, cond_true]; by_cases h2 : x ≤ b
    · rw [dt h2, dt ⟨h, h2⟩]
    · rw [df h2, df (fun e => h2 e.2)]
  · rw [df h, cond_false, df (fun e => h e.1)]
theorem inR_impl (x a b : Int) : impl_inRange (x, (a, b)) = some (decide (a ≤ x ∧ x ≤ b)) := inR_spec x a b

def DOk (d : Int × (Int × (Int × Int))) : Prop := (3 ≤ d.1 ∧ d.1 ≤ 6) ∧ (3 ≤ d.2.1 ∧ d.2.1 ≤ 6) ∧ (1 ≤ d.2.2.1 ∧ d.2.2.1 ≤ 4) ∧ (d.2.2.2 = -1 ∨ (1 ≤ d.2.2.2 ∧ d.2.2.2 ≤ d.1 - 2))
instance (d : Int × (Int × (Int × Int))) : Decidable (DOk d) := by unfold DOk; exact inferInstance
def tkp (d : Int × (Int × (Int × Int))) (t : Int) : Int :=
  if t % d.1 = 0 ∨ t / d.1 = 0 ∨ t % d.1 = d.1 - 1 ∨ t / d.1 = d.2.1 - 1 then 0 else if t % d.1 = d.2.2.2 then 2 else 1
def tk (d : Int × (Int × (Int × Int))) (t : Int) : Int := if DOk d ∧ 0 ≤ t ∧ t < d.1 * d.2.1 then tkp d t else -1
def per (d : Int × (Int × (Int × Int))) : Int := 7 + 4 * d.2.2.1
def nodesN (d : Int × (Int × (Int × Int))) : Int := d.1 * d.2.1 * per d
def inP (k : Int) : Int := if k = 0 then 1 else if k = 1 then 5 else if k = 2 then 4 else 0
def outP (k : Int) : Int := if k = 0 then 1 else if k = 1 then 2 else if k = 2 then 1 else 0
end Go.Pf

