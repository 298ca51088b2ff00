import Derived.Test.YtnilimjkibimcaaDoorDPA
import Derived.Test.YtnilimjkibimcaaDoorDN
set_option linter.unusedSimpArgs false
set_option linter.unusedVariables false

namespace Go.Proofs.YtnilimjkibimcaaDoor
open Go.Zz
def DvM (e : Nat → Nat → Int) (m k : Nat) (g : Int) : Prop := ∀ is js : List Nat, is.length = k → js.length = k → (∀ i ∈ is, i < m) → (∀ j ∈ js, j < 6) → g ∣ minorF e is js
def SameL (A B : List (List Int)) : Prop := ∀ g, RowL (ent A) A.length g ↔ RowL (ent B) B.length g
abbrev Six (rows : List (List Int)) : Prop := ∀ i, i < rows.length → (rw_ rows i).length = 6
end Go.Proofs.YtnilimjkibimcaaDoor

