/-
  Own work. Distances of the device's graph: both sides alike; starts and costs.
-/
import Derived.Test.YtjpkedhcbnklmaaDsc
namespace Go.Pf
open Go Go.Pu
set_option linter.unusedVariables false

end Go.Pf

