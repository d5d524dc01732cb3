/-
  Own work. Plain laws of the small functions of the laws' file (lists of ints compared, marked, held).
-/
import Derived.Test.YtnlcnnmdalgibaaPl
import Derived.Test.YtnlcnnmdalgibaaD
namespace Go.Pf
open Go Go.Pu
end Go.Pf

