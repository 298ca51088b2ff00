import Derived.Test.YtnilimjkibimcaaNe
set_option linter.unusedSimpArgs false
set_option linter.unusedVariables false

namespace Go.Proofs.Ytnilimjkibimcaa
open Go.Zz
set_option maxRecDepth 100000
set_option maxHeartbeats 8000000
noncomputable def E21 : Env := E20.put 100 (borrowE E20 100)
theorem E21_ok : EnvOk Try.prog E21 := Env.put_ok E20_ok (borrowE_ok E20_ok (callable Try.func100 (by kernel_rfl)))
noncomputable def E22 : Env := E21.put 31 (borrowE E21 31)
end Go.Proofs.Ytnilimjkibimcaa

