import Derived.Test.YtgchabldcnmccabDoorUPm

set_option linter.unusedSimpArgs false
set_option linter.unusedVariables false

namespace Go.Proofs.YtgchabldcnmccabDoor
open Go.Zz
def zqa (r : List Int) : Prop := ∀ j, j < 6 -> -1000 <= r.getD j 0 /\ r.getD j 0 <= 1000
instance (r : List Int) : Decidable (zqa r) := by unfold zqa; infer_instance
def remF (h : Nat -> Nat -> Int) (c v : Nat -> Int) (k j : Nat) : Int := v j - zag (fun i => c i * h i j) k
def Bd6 (H : List (List Int)) : Prop := ∀ i j, i < H.length -> j < 6 -> -6000000000 <= ent H i j /\ ent H i j <= 6000000000
end Go.Proofs.YtgchabldcnmccabDoor

