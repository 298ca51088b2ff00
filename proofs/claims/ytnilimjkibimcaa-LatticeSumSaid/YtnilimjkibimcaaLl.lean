import Derived.Test.YtnilimjkibimcaaLB
import Derived.Test.YtnilimjkibimcaaLC
import Derived.Test.YtnilimjkibimcaaIrX
set_option linter.unusedSimpArgs false
set_option linter.unusedVariables false

namespace Go.Proofs.Ytnilimjkibimcaa
open Go.Zz
set_option maxRecDepth 100000
set_option maxHeartbeats 8000000
noncomputable def N14 : Env := N13.put 79 (borrowE N13 79)
theorem N14_ok : EnvOk Try.prog N14 := Env.put_ok N13_ok (borrowE_ok N13_ok (callable Try.func79 (by kernel_rfl)))
theorem SxS.byVal {x : AV} {xs : List Int} (h : SxS x xs) (H : Hp) : Zz.byVal H x = some x := by
  rcases h with ⟨rfl, _⟩ | ⟨f, rfl⟩
  · rfl
  · have e : (xs.map (AV.int .i16)).all flatAV = true := by simp [flatAV]
    simp only [Zz.byVal, Zz.byC, e, if_true]
noncomputable def N15 : Env := N14.put 78 (borrowX N14 78)
theorem N15_ok : EnvOk Try.prog N15 := Env.put_ok N14_ok (borrowX_ok N14_ok (callable Try.func78 (by kernel_rfl)))
end Go.Proofs.Ytnilimjkibimcaa

