/-
  Own work. Paths by predecessors: the program's and the reference's, plainly.
-/
import Derived.Test.YtjpkedhcbnklmaaPln
namespace Go.Pf
open Go Go.Pu
end Go.Pf
