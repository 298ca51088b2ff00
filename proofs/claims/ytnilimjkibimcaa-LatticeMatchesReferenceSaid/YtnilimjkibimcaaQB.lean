import Derived.Test.YtnilimjkibimcaaAbsI
import Derived.Test.YtnilimjkibimcaaPb
import Derived.Test.YtnilimjkibimcaaQa
import Derived.Test.YtnilimjkibimcaaPQ

set_option linter.unusedSimpArgs false
set_option linter.unusedVariables false

namespace Go.Proofs.Ytnilimjkibimcaa
open Go.Zz
set_option maxRecDepth 100000
set_option maxHeartbeats 8000000
theorem GS.resV {sz : Nat} {H : Hp} {v : AV} {q : Nat} {c : List AV} (h : GS sz H v q c) : Zz.resV H v = Zz.resC H v := by
 rcases h with ⟨rfl, _⟩ | ⟨g, rfl, _⟩ | ⟨g, n, rfl, _⟩ <;> rfl
noncomputable def E42 : Env := E41.put 41 (borrowE E41 41)
end Go.Proofs.Ytnilimjkibimcaa

