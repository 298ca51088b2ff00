import Derived.Test.YtnilimjkibimcaaTg
import Derived.Test.YtnilimjkibimcaaIrU
set_option linter.unusedSimpArgs false
set_option linter.unusedVariables false

namespace Go.Proofs.Ytnilimjkibimcaa
open Go.Zz
set_option maxRecDepth 100000
set_option maxHeartbeats 8000000
def negV (r : List Int) : List Int := r.map fun x => -x
def addV (a b : List Int) : List Int := (List.range 6).map fun j => a.getD j 0 + b.getD j 0
noncomputable def T21 : Env := T20.put 62 (borrowE T20 62)
theorem T21_ok : EnvOk Try.prog T21 := Env.put_ok T20_ok (borrowE_ok T20_ok (callable Try.func62 (by kernel_rfl)))
noncomputable def T22 : Env := T21.put 63 (borrowE T21 63)
theorem T22_ok : EnvOk Try.prog T22 := Env.put_ok T21_ok (borrowE_ok T21_ok (callable Try.func63 (by kernel_rfl)))
noncomputable def T23 : Env := T22.put 64 (borrowE T22 64)
theorem T23_ok : EnvOk Try.prog T23 := Env.put_ok T22_ok (borrowE_ok T22_ok (callable Try.func64 (by kernel_rfl)))
end Go.Proofs.Ytnilimjkibimcaa

