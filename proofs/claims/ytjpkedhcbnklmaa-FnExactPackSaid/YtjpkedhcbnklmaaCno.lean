/-
  Own work. The connections of a packing, plainly.
-/
import Derived.Test.YtjpkedhcbnklmaaMkh
import Derived.Test.YtjpkedhcbnklmaaMcs
namespace Go.Pf
open Go Go.Pu
set_option linter.unusedVariables false

theorem mapS {α β : Type} {X : Option β} {o : β} (h : X = some o) : Option.map (Sum.inr : β → α ⊕ β) X = some (.inr o) := by rw [h]; rfl
end Go.Pf

