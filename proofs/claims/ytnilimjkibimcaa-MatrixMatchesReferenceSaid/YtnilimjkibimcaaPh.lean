import Derived.Test.YtnilimjkibimcaaPg
set_option linter.unusedSimpArgs false
set_option linter.unusedVariables false

namespace Go.Proofs.Ytnilimjkibimcaa
open Go.Zz
def liftS (rows : List (List Int)) (S : Fr) (x : Nat → Int) (j : Nat) : Int := psumF (fun k => x k * minorF (ent rows) S.is (S.js.set k j)) S.js.length
abbrev RowL (e : Nat → Nat → Int) (m : Nat) (g : Nat → Int) : Prop := Sp 6 (rowsP e m) g
structure HermL (rows H : List (List Int)) (p : List Nat) : Prop where
  len : H.length = p.length
  six : ∀ r ∈ H, r.length = 6
  hf : HF 6 (ent H) p.length fun i => p.getD i 0
  sp : ∀ g, RowL (ent H) H.length g ↔ RowL (ent rows) rows.length g
end Go.Proofs.Ytnilimjkibimcaa

