import Derived.Test.YtnilimjkibimcaaDoorDPk
import Derived.Test.YtnilimjkibimcaaDoorDN
set_option linter.unusedSimpArgs false
set_option linter.unusedVariables false

namespace Go.Proofs.YtnilimjkibimcaaDoor
open Go.Zz
theorem set_same {R : List (List Int)} {i : Nat} (hi : i < R.length) : R.set i (R.getD i []) = R := by
  rw [List.getD_eq_getElem?_getD, List.getElem?_eq_getElem hi]
  exact List.set_getElem_self hi
def swapR (R : List (List Int)) (i k : Nat) : List (List Int) := (R.set i (R.getD k [])).set k (R.getD i [])
def negC (R : List (List Int)) (k : Nat) : Nat → List (List Int)
  | 0 => R
  | t + 1 => setE (negC R k t) k t (-(ent (negC R k t) k t))
def mulC (R : List (List Int)) (i k : Nat) (f : Int) : Nat → List (List Int)
  | 0 => R
  | t + 1 => setE (mulC R i k f t) i t (ent (mulC R i k f t) i t + f * ent (mulC R i k f t) k t)
def changedR (R : List (List Int)) (i k : Nat) (f : Int) : List (List Int) := if i = k then negC (swapR R i k) k 6 else mulC (negC (swapR R i k) k 6) i k f 6
end Go.Proofs.YtnilimjkibimcaaDoor

