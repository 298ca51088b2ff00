import Derived.Test.YtnilimjkibimcaaNk
import Derived.Test.YtnilimjkibimcaaPA
set_option linter.unusedSimpArgs false
set_option linter.unusedVariables false

namespace Go.Proofs.Ytnilimjkibimcaa
open Go.Zz
set_option maxRecDepth 100000
set_option maxHeartbeats 8000000
theorem kern_len {rows : List (List Int)} (hv : VM rows) (h6 : ∀ i, i < rows.length → (rw_ rows i).length = 6) : (kernR rows).length + rankF rows = 6 := by
  have hB := fwd_B hv h6
  have hB' := bwd_B hv h6
  have h1 := (kerX_LB hB' (bwdF rows).js.length).len
  have h2 := hB.len
  have h3 := frames_same (fwd_crm rows) hB (bwd_crm rows) hB'
  have h4 := free_all hB'.j
  have e : rankF rows = (fwdF rows).is.length := rfl
  unfold kernR
  rw [if_pos hv]
  unfold kerF
  rw [List.length_map, h1]
  omega
end Go.Proofs.Ytnilimjkibimcaa

