import Derived.Test.YtjbdefmhjmkifaaDoorIr11xc10
import Derived.Test.YtjbdefmhjmkifaaDoorL11cj
import Derived.Test.YtjbdefmhjmkifaaDoorL11ck

set_option linter.unusedSimpArgs false
set_option linter.unusedVariables false
namespace Go.Proofs.YtjbdefmhjmkifaaDoor
open Go.Zz
set_option maxRecDepth 100000
set_option maxHeartbeats 4000000
theorem few_small {ps : List Pipe} {tol : Int} {vs : List V6} : ∀ i, ((LSof (fewL ps) tol vs).getD i []).length ≤ 10 := fun i => by
  have hl : (fewL ps).length ≤ 10 := by unfold fewL; rw [List.length_map, List.length_take]; omega
  by_cases h : i < vs.length
  · rw [LSof_at h]
    exact Nat.le_trans findL_len hl
  · rw [List.getD_eq_getElem?_getD, List.getElem?_eq_none (by rw [LSof_len]; omega)]
    simp
end Go.Proofs.YtjbdefmhjmkifaaDoor

