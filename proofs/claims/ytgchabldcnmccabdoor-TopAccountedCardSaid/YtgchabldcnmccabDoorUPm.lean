import Derived.Test.YtgchabldcnmccabDoorUPl

set_option linter.unusedSimpArgs false
set_option linter.unusedVariables false

namespace Go.Proofs.YtgchabldcnmccabDoor
open Go.Zz
def SixR (R : List (List Int)) : Prop := ∀ r ∈ R, r.length = 6
def lprod (f : Nat -> Int) : List Nat -> Int
 | [] => 1
 | x :: l => lprod f l * f x
end Go.Proofs.YtgchabldcnmccabDoor

