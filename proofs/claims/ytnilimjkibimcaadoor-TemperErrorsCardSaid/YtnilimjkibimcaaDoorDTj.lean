import Derived.Test.YtnilimjkibimcaaDoorDTh
set_option linter.unusedSimpArgs false
set_option linter.unusedVariables false

namespace Go.Proofs.YtnilimjkibimcaaDoor
open Go.Zz
set_option maxRecDepth 100000
set_option maxHeartbeats 8000000
theorem dot_add (a b c : List Int) : dotF a (addV b c) = dotF a b + dotF a c := by
  show psumF _ 6 = psumF _ 6 + psumF _ 6
  rw [← psumF_add]
  exact psumF_congr fun j hj => by rw [add_at hj, Int.mul_add]
theorem img_add {rows : List (List Int)} {v w : List Int} {t : Nat} (ht : t < rows.length) : (imgF rows (addV v w)).getD t 0 = (imgF rows v).getD t 0 + (imgF rows w).getD t 0 := by rw [img_at ht, img_at ht, img_at ht, dot_add]
theorem add_len (v w : List Int) : (addV v w).length = 6 := by simp [addV]
end Go.Proofs.YtnilimjkibimcaaDoor

