import Derived.Test.YtnilimjkibimcaaNk
import Derived.Test.YtnilimjkibimcaaPQ
import Derived.Test.YtnilimjkibimcaaPb
import Derived.Test.YtnilimjkibimcaaPA

set_option linter.unusedSimpArgs false
set_option linter.unusedVariables false

namespace Go.Proofs.Ytnilimjkibimcaa
open Go.Zz
set_option maxRecDepth 100000
set_option maxHeartbeats 8000000
noncomputable def C1 : Env := E41.put 106 (borrowE E41 106)
noncomputable def C2 : Env := C1.put 107 (borrowE C1 107)
set_option maxRecDepth 100000
set_option maxHeartbeats 8000000
structure SR (N : Nat) (H : Hp) (v : AV) (L : List (List Nat)) : Prop where
 len : Zz.slen v = some L.length
 at_ : ∀ i, i < L.length → ∃ q g o c x, indexAddrAV 1 v (.int .i64 (i : Nat)) = some (.pref q g o) ∧ N ≤ q ∧ q < H.length ∧ Zz.look H q g = some c ∧ c[o]? = some x ∧ ∀ H' : Hp, H.length ≤ H'.length → (∀ j, N ≤ j → j < H.length → H'[j]? = H[j]?) → JS H' x (L.getD i [])
set_option maxRecDepth 100000
set_option maxHeartbeats 8000000
noncomputable def C3 : Env := C2.put 40 (borrowE C2 40)
def divFR (rows : List (List Int)) : List Int := (List.range (rankF rows)).map fun i => ((divRK rows (i + 1) : Nat) : Int)
def divRR (rows : List (List Int)) : List Int := if VM rows then divFR rows else []
noncomputable def C4 : Env := C3.put 33 (borrowX C3 33)
end Go.Proofs.Ytnilimjkibimcaa

