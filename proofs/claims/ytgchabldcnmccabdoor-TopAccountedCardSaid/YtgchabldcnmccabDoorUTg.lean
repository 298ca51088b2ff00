import Derived.Test.YtgchabldcnmccabDoorUTe
import Derived.Test.YtgchabldcnmccabDoorUIr

set_option linter.unusedSimpArgs false
set_option linter.unusedVariables false

namespace Go.Proofs.YtgchabldcnmccabDoor
open Go.Zz
set_option maxRecDepth 100000
set_option maxHeartbeats 8000000
theorem hs1 : imgR [[12,19,28,34,42,44]] [-1,1,0,0,0,0] = [7] := by kernel_rfl
theorem hs2 : zn9 [[12,19,28,34,42,44]] [-1,1,0,0,0,0] = 0 := by kernel_rfl
theorem hs5 : zcW [[-4,4,-1,0,0,0],[0,0,0,1,0,0],[0,0,0,0,1,0],[0,0,0,0,0,1]] = [[1,0,-4,0,0,0],[0,1,4,0,0,0]] := by kernel_rfl
theorem hs6 : zhC [[-4,4,-1,0,0,0],[0,0,0,1,0,0],[0,0,0,0,1,0],[0,0,0,0,0,1]] = 0 := by kernel_rfl
theorem zrE : zfZ [[1,0,-4,0,0,0],[0,1,4,0,0,0]] [[12,0,0,0,0,0],[12,0,3,0,0,0]] [-2,0,1,0,0,0] = 0 := by kernel_rfl
noncomputable def T20 : Env := T19
theorem ztR : EnvOk Tryd.prog T20 := zsm
set_option maxRecDepth 100000
set_option maxHeartbeats 8000000
def negV (r : List Int) : List Int := r.map fun x => -x
def addV (a b : List Int) : List Int := (List.range 6).map fun j => a.getD j 0 + b.getD j 0
theorem zqj (t : Nat) : zer6.getD t 0 = 0 := by
 match t with
 | 0 | 1 | 2 | 3 | 4 | 5 => rfl
 | _ + 6 => rfl
noncomputable def T21 : Env := T20
theorem ztU : EnvOk Tryd.prog T21 := ztR
noncomputable def T22 : Env := T21
theorem zsU : EnvOk Tryd.prog T22 := ztU
noncomputable def T23 : Env := T22
theorem zsl : EnvOk Tryd.prog T23 := zsU
end Go.Proofs.YtgchabldcnmccabDoor

