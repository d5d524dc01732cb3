/-
  Own work. The law of paths, plainly: it says true.
-/
import Derived.Test.YtjpkedhcbnklmaaPath
namespace Go.Pf
open Go Go.Pu
end Go.Pf
