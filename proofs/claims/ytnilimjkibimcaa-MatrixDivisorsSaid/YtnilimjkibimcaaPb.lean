import Derived.Test.YtnilimjkibimcaaNk
import Derived.Test.YtnilimjkibimcaaPA
set_option linter.unusedSimpArgs false
set_option linter.unusedVariables false

namespace Go.Proofs.Ytnilimjkibimcaa
open Go.Zz
set_option maxRecDepth 100000
set_option maxHeartbeats 8000000
theorem div_len {rows : List (List Int)} (hv : VM rows) : (divR rows).length = rankF rows := by
  unfold divR divF
  rw [if_pos hv]
  simp
end Go.Proofs.Ytnilimjkibimcaa

