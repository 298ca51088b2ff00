import Derived.Test.YtnilimjkibimcaaPk
set_option linter.unusedSimpArgs false
set_option linter.unusedVariables false

namespace Go.Proofs.Ytnilimjkibimcaa
open Go.Zz
def subs : Nat → Nat → List (List Nat)
  | _, 0 => [[]]
  | 0, _ + 1 => []
  | n + 1, k + 1 => subs n (k + 1) ++ (subs n k).map (· ++ [n])
def dRow (rows : List (List Int)) (k : Nat) (g : Nat) (is : List Nat) : Nat := (subs 6 k).foldl (gStep rows is) g
def divRK (rows : List (List Int)) (k : Nat) : Nat := (subs rows.length k).foldl (dRow rows k) 0
end Go.Proofs.Ytnilimjkibimcaa

