import Derived.Test.YtgchabldcnmccabDoorUNe

set_option linter.unusedSimpArgs false
set_option linter.unusedVariables false

namespace Go.Proofs.YtgchabldcnmccabDoor
open Go.Zz
set_option maxRecDepth 100000
set_option maxHeartbeats 8000000
theorem GS.nat {H : Hp} {v : AV} {q : Nat} {l : List Nat} (h : GS 1 H v q (zas l)) : ∃ x, NatS x l /\ Zz.resV H v = some x := by
 obtain ⟨x, e1, e2⟩ := (JS.of_gs h).resC;refine ⟨x, e2, ?_⟩
 rcases h with ⟨rfl, _⟩ | ⟨g, rfl, _⟩ | ⟨g, n, rfl, _⟩ <;> exact e1
noncomputable def E21 : Env := E20
theorem zm8 : EnvOk Tryd.prog E21 := ztp
noncomputable def E22 : Env := E21
theorem ztO : EnvOk Tryd.prog E22 := zm8
end Go.Proofs.YtgchabldcnmccabDoor

