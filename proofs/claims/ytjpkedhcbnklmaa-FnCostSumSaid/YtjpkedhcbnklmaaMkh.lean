/-
  Own work. The laws' marks in lists of connections and of blocks: what is marked is held.
-/
import Derived.Test.YtjpkedhcbnklmaaPko
import Derived.Test.YtjpkedhcbnklmaaCna
namespace Go.Pf
open Go Go.Pu
set_option linter.unusedVariables false
end Go.Pf
