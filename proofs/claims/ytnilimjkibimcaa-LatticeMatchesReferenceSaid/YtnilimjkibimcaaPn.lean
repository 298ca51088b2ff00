import Derived.Test.YtnilimjkibimcaaPQ

set_option linter.unusedSimpArgs false
set_option linter.unusedVariables false

namespace Go.Proofs.Ytnilimjkibimcaa
open Go.Zz
def smallV (r : List Int) : Prop := ∀ j, j < 6 → -1000 ≤ r.getD j 0 ∧ r.getD j 0 ≤ 1000
instance (r : List Int) : Decidable (smallV r) := by unfold smallV; infer_instance
def remF (h : Nat → Nat → Int) (c v : Nat → Int) (k j : Nat) : Int := v j - psumF (fun i => c i * h i j) k
def Bd6 (H : List (List Int)) : Prop := ∀ i j, i < H.length → j < 6 → -6000000000 ≤ ent H i j ∧ ent H i j ≤ 6000000000
end Go.Proofs.Ytnilimjkibimcaa

