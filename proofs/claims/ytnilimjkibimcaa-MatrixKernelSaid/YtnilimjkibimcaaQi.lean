import Derived.Test.YtnilimjkibimcaaPb
import Derived.Test.YtnilimjkibimcaaPA
import Derived.Test.YtnilimjkibimcaaQh
set_option linter.unusedSimpArgs false
set_option linter.unusedVariables false

namespace Go.Proofs.Ytnilimjkibimcaa
open Go.Zz
set_option maxRecDepth 100000
set_option maxHeartbeats 8000000
noncomputable def C3 : Env := C2.put 40 (borrowE C2 40)
theorem C3_ok : EnvOk Try.prog C3 := Env.put_ok C2_ok (borrowE_ok C2_ok (callable Try.func40 (by kernel_rfl)))
def divFR (rows : List (List Int)) : List Int := (List.range (rankF rows)).map fun i => ((divRK rows (i + 1) : Nat) : Int)
def divRR (rows : List (List Int)) : List Int := if VM rows then divFR rows else []
noncomputable def C4 : Env := C3.put 33 (borrowX C3 33)
end Go.Proofs.Ytnilimjkibimcaa

