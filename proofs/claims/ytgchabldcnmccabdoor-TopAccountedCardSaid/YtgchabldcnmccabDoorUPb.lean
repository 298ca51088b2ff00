import Derived.Test.YtgchabldcnmccabDoorUNk
import Derived.Test.YtgchabldcnmccabDoorUPA

set_option linter.unusedSimpArgs false
set_option linter.unusedVariables false

namespace Go.Proofs.YtgchabldcnmccabDoor
open Go.Zz
set_option maxRecDepth 100000
set_option maxHeartbeats 8000000
end Go.Proofs.YtgchabldcnmccabDoor

