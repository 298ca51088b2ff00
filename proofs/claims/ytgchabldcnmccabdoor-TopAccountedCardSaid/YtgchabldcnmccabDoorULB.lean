import Derived.Test.YtgchabldcnmccabDoorULA
import Derived.Test.YtgchabldcnmccabDoorUTe
import Derived.Test.YtgchabldcnmccabDoorUIr

set_option linter.unusedSimpArgs false
set_option linter.unusedVariables false

namespace Go.Proofs.YtgchabldcnmccabDoor
open Go.Zz
set_option maxRecDepth 100000
set_option maxHeartbeats 8000000
noncomputable def N5 : Env := M4
noncomputable def N6 : Env := N5.put 48 (zb5 E16 48)
def quoM (rows : List (List Int)) (v : List Int) : List Int := if memD rows v then quoD rows v else []
noncomputable def N7 : Env := N5
noncomputable def N8 : Env := N7
end Go.Proofs.YtgchabldcnmccabDoor

