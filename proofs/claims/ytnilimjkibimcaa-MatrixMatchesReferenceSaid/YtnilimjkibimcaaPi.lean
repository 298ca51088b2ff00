import Derived.Test.YtnilimjkibimcaaPh
set_option linter.unusedSimpArgs false
set_option linter.unusedVariables false

namespace Go.Proofs.Ytnilimjkibimcaa
open Go.Zz
def sigF (c : Nat → Int) (x : Nat → Int) (n : Nat) : Int := psumF (fun t => c t * x t) n
structure KL (n : Nat) (d : Int) (P : (Nat → Int) → Prop) (X : List (List Int)) : Prop where
  lb : LB X n d
  hf : HF n (ent X) n id
  full : Full (ent X) n d
  sp : ∀ g, Sp n (rowsP (ent X) n) g ↔ P g
end Go.Proofs.Ytnilimjkibimcaa

