import Derived.Test.YtnilimjkibimcaaPl
set_option linter.unusedSimpArgs false
set_option linter.unusedVariables false

namespace Go.Proofs.Ytnilimjkibimcaa
open Go.Zz
def SixR (R : List (List Int)) : Prop := ∀ r ∈ R, r.length = 6
theorem SixR.six {R : List (List Int)} (h : SixR R) : Six R := fun i hi => h _ (row_mem hi)
def lprod (f : Nat → Int) : List Nat → Int
  | [] => 1
  | x :: l => lprod f l * f x
end Go.Proofs.Ytnilimjkibimcaa

