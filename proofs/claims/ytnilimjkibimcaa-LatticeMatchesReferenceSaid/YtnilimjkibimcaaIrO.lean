import Derived.Test.YtnilimjkibimcaaNoG
import Derived.Test.YtnilimjkibimcaaRows
import Derived.KernelRfl

namespace Go.Proofs.Ytnilimjkibimcaa
open Go.Zz
end Go.Proofs.Ytnilimjkibimcaa

