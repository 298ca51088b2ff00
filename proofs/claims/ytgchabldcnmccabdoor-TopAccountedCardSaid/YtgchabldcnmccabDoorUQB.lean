import Derived.Test.YtgchabldcnmccabDoorAbsI
import Derived.Test.YtgchabldcnmccabDoorUPb
import Derived.Test.YtgchabldcnmccabDoorUQa
import Derived.Test.YtgchabldcnmccabDoorUPm

set_option linter.unusedSimpArgs false
set_option linter.unusedVariables false

namespace Go.Proofs.YtgchabldcnmccabDoor
open Go.Zz
set_option maxRecDepth 100000
set_option maxHeartbeats 8000000
theorem GS.resV {sz : Nat} {H : Hp} {v : AV} {q : Nat} {c : List AV} (h : GS sz H v q c) : Zz.resV H v = Zz.resC H v := by
 rcases h with ⟨rfl, _⟩ | ⟨g, rfl, _⟩ | ⟨g, n, rfl, _⟩ <;> rfl
noncomputable def E42 : Env := E41
end Go.Proofs.YtgchabldcnmccabDoor

