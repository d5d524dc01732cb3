/-
  Own work. The laws' helpers for lists: sizes, copies, comparisons.
-/
import Derived.Test.YtnlcnnmdalgibaaPbA
import Derived.Test.YtnlcnnmdalgibaaPln
import Derived.Test.YtnlcnnmdalgibaaD
namespace Go.Pf
open Go Go.Pu
set_option linter.unusedVariables false

abbrev Dev := Int × (Int × (Int × Int))
end Go.Pf

