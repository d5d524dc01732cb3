/-
  Own work. A connection's nodes, plainly.
-/
import Derived.Test.YtjpkedhcbnklmaaDvd
import Derived.Test.YtjpkedhcbnklmaaHlp
namespace Go.Pf
open Go Go.Pu
set_option linter.unusedVariables false
end Go.Pf
