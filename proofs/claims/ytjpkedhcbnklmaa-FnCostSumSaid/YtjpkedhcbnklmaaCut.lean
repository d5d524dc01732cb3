/-
  Own work. Cuts by a line, plainly.
-/
import Derived.Test.YtjpkedhcbnklmaaDve
namespace Go.Pf
open Go Go.Pu
set_option linter.unusedVariables false
end Go.Pf
