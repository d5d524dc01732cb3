/-
  Own work. The laws' helpers for lists: sizes, copies, comparisons.
-/
import Derived.Test.YtnlcnnmdalgibaaPbA
import Derived.Test.YtnlcnnmdalgibaaPln
import Derived.Test.YtnlcnnmdalgibaaD
namespace Go.Pf
open Go Go.Pu
set_option linter.unusedVariables false

abbrev Arc := Int × (Int × Int)
abbrev TG := Int × List Arc
end Go.Pf

