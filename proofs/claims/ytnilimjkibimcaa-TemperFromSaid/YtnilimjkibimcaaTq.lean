import Derived.Test.YtnilimjkibimcaaTh
import Derived.Test.YtnilimjkibimcaaPo
import Derived.Test.YtnilimjkibimcaaLA
import Derived.Test.YtnilimjkibimcaaPv
set_option linter.unusedSimpArgs false
set_option linter.unusedVariables false

namespace Go.Proofs.Ytnilimjkibimcaa
open Go.Zz
set_option maxRecDepth 100000
set_option maxHeartbeats 8000000
noncomputable def T24 : Env := T23.put 66 (borrowE M5 66)
theorem T24_ok : EnvOk Try.prog T24 := Env.put_ok T23_ok (borrowE_ok M5_ok (callable Try.func66 (by kernel_rfl)))
end Go.Proofs.Ytnilimjkibimcaa

