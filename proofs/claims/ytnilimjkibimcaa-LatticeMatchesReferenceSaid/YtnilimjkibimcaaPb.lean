import Derived.Test.YtnilimjkibimcaaNk
import Derived.Test.YtnilimjkibimcaaPA

set_option linter.unusedSimpArgs false
set_option linter.unusedVariables false

namespace Go.Proofs.Ytnilimjkibimcaa
open Go.Zz
set_option maxRecDepth 100000
set_option maxHeartbeats 8000000
end Go.Proofs.Ytnilimjkibimcaa

