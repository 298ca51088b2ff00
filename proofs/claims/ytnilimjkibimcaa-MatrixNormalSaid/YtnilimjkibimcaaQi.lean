import Derived.Test.YtnilimjkibimcaaPb
import Derived.Test.YtnilimjkibimcaaPA
import Derived.Test.YtnilimjkibimcaaQh
set_option linter.unusedSimpArgs false
set_option linter.unusedVariables false

namespace Go.Proofs.Ytnilimjkibimcaa
open Go.Zz
set_option maxRecDepth 100000
set_option maxHeartbeats 8000000
theorem sub_1 {rows : List (List Int)} (hv : VM rows) (h6 : Six rows) {k : Nat} {is js : List Nat} (hi : is ∈ subs rows.length k) (hj : js ∈ subs 6 k) : okI rows is ∧ okW rows 1 js ∧ okP rows 1 is ∧ -1000000000 ≤ minorF (ent rows) is js ∧ minorF (ent rows) is js ≤ 1000000000 := minor_1 hv h6 (subs_mem.1 hi).1 (subs_mem.1 hj).1
noncomputable def C3 : Env := C2.put 40 (borrowE C2 40)
theorem C3_ok : EnvOk Try.prog C3 := Env.put_ok C2_ok (borrowE_ok C2_ok (callable Try.func40 (by kernel_rfl)))
def divFR (rows : List (List Int)) : List Int := (List.range (rankF rows)).map fun i => ((divRK rows (i + 1) : Nat) : Int)
def divRR (rows : List (List Int)) : List Int := if VM rows then divFR rows else []
noncomputable def C4 : Env := C3.put 33 (borrowX C3 33)
end Go.Proofs.Ytnilimjkibimcaa

