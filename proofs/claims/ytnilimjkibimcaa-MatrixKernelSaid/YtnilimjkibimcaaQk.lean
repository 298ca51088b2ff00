import Derived.Test.YtnilimjkibimcaaQj
import Derived.Test.YtnilimjkibimcaaQB
import Derived.Test.YtnilimjkibimcaaPS
set_option linter.unusedSimpArgs false
set_option linter.unusedVariables false

namespace Go.Proofs.Ytnilimjkibimcaa
open Go.Zz
set_option maxRecDepth 100000
set_option maxHeartbeats 8000000
noncomputable def D1 : Env := C3.put 43 (borrowE E42 43)
theorem D1_ok : EnvOk Try.prog D1 := Env.put_ok C3_ok (borrowE_ok E42_ok (callable Try.func43 (by kernel_rfl)))
noncomputable def D2 : Env := D1.put 38 (borrowE E43 38)
theorem D2_ok : EnvOk Try.prog D2 := Env.put_ok D1_ok (borrowE_ok E43_ok (callable Try.func38 (by kernel_rfl)))
noncomputable def D3 : Env := D2.put 37 (borrowE E44 37)
theorem D3_ok : EnvOk Try.prog D3 := Env.put_ok D2_ok (borrowE_ok E44_ok (callable Try.func37 (by kernel_rfl)))
noncomputable def D4 : Env := D3.put 39 (borrowE E45 39)
theorem D4_ok : EnvOk Try.prog D4 := Env.put_ok D3_ok (borrowE_ok E45_ok (callable Try.func39 (by kernel_rfl)))
end Go.Proofs.Ytnilimjkibimcaa

