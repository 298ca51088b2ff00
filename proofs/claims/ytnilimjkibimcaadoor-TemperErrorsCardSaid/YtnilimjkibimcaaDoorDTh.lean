import Derived.Test.YtnilimjkibimcaaDoorDTg
import Derived.Test.YtnilimjkibimcaaDoorDIr
set_option linter.unusedSimpArgs false
set_option linter.unusedVariables false

namespace Go.Proofs.YtnilimjkibimcaaDoor
open Go.Zz
set_option maxRecDepth 100000
set_option maxHeartbeats 8000000
def negV (r : List Int) : List Int := r.map fun x => -x
def addV (a b : List Int) : List Int := (List.range 6).map fun j => a.getD j 0 + b.getD j 0
theorem add_at {a b : List Int} {t : Nat} (h : t < 6) : (addV a b).getD t 0 = a.getD t 0 + b.getD t 0 := by
  unfold addV
  simp [List.getD_eq_getElem?_getD, h]
noncomputable def T21 : Env := T20
theorem T21_ok : EnvOk Tryd.prog T21 := T20_ok
noncomputable def T22 : Env := T21.put 6 (borrowE T21 6)
theorem T22_ok : EnvOk Tryd.prog T22 := Env.put_ok T21_ok (borrowE_ok T21_ok (callable Tryd.func6 (by kernel_rfl)))
noncomputable def T23 : Env := T22
theorem T23_ok : EnvOk Tryd.prog T23 := T22_ok
end Go.Proofs.YtnilimjkibimcaaDoor

