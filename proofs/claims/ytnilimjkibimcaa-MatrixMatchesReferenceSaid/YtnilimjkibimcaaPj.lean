import Derived.Test.YtnilimjkibimcaaPi
set_option linter.unusedSimpArgs false
set_option linter.unusedVariables false

namespace Go.Proofs.Ytnilimjkibimcaa
open Go.Zz
def lsum (f : Nat → Int) : List Nat → Int
  | [] => 0
  | x :: l => f x + lsum f l
def KerP (e : Nat → Nat → Int) (m : Nat) (y : Nat → Int) : Prop := ∀ i, i < m → psumF (fun j => e i j * y j) 6 = 0
structure KerL (rows H : List (List Int)) (p : List Nat) : Prop where
  len : H.length = p.length
  six : ∀ r ∈ H, r.length = 6
  hf : HF 6 (ent H) p.length fun i => p.getD i 0
  sp : ∀ g, RowL (ent H) H.length g ↔ KerP (ent rows) rows.length g
end Go.Proofs.Ytnilimjkibimcaa

