import Derived.Test.YtjbdefmhjmkifaaDoorL11pa

/-
  What a part of a set asks for, and how far it shifts.
-/
set_option linter.unusedVariables false
namespace Go.Proofs.YtjbdefmhjmkifaaDoor
open Go.Zz

end Go.Proofs.YtjbdefmhjmkifaaDoor

