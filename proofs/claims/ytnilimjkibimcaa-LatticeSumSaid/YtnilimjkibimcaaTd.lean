import Derived.Test.YtnilimjkibimcaaTc
import Derived.Test.YtnilimjkibimcaaPm
set_option linter.unusedSimpArgs false
set_option linter.unusedVariables false

namespace Go.Proofs.Ytnilimjkibimcaa
open Go.Zz
set_option maxRecDepth 100000
set_option maxHeartbeats 8000000
def kerT (rows : List (List Int)) : List (List Int) := if VT rows then kerF rows else []
def errT (rows : List (List Int)) : Int := if VT rows then 0 else 1
noncomputable def T14 : Env := T13.put 52 (borrowX T13 52)
def tuneN (rows gens : List (List Int)) (v : List Int) (i k : Nat) : Int := psumF (fun t => (imgF rows v).getD t 0 * ent gens t k) i
def tuneF (rows gens : List (List Int)) (v : List Int) : List Int := (List.range 6).map fun k => tuneN rows gens v rows.length k
end Go.Proofs.Ytnilimjkibimcaa

