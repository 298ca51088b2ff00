import Derived.Test.YtnilimjkibimcaaTe
set_option linter.unusedSimpArgs false
set_option linter.unusedVariables false

namespace Go.Proofs.Ytnilimjkibimcaa
open Go.Zz
set_option maxRecDepth 100000
set_option maxHeartbeats 8000000
noncomputable def T16 : Env := T15.put 116 (borrowE T6 116)
def pureR (rows gens : List (List Int)) (v : List Int) : Bool := decide (errTu rows gens v = 0 ∧ tunP rows gens v = mul12 v)
noncomputable def T17 : Env := T16.put 59 (borrowX T16 59)
def fromC (rows : List (List Int)) : Prop := VM rows ∧ ∀ i, i < rows.length → okB 48 (rw_ rows i)
instance (rows : List (List Int)) : Decidable (fromC rows) := by unfold fromC; infer_instance
def fromR (rows : List (List Int)) : List (List Int) := if fromC rows ∧ VT (kerF rows) then kerF rows else []
def errF (rows : List (List Int)) : Int := if fromC rows then (if (kerF rows).length = 0 ∨ (kerF rows).length > 3 then 4 else if VT (kerF rows) then 0 else 3) else 1
theorem gs_cells {sz : Nat} {H : Hp} {v : AV} {q : Nat} {c : List AV} (h : GS sz H v q c) : v.cells = some [v] := by
  rcases h with ⟨rfl, _⟩ | ⟨g, rfl, _⟩ | ⟨g, n, rfl, _⟩ <;> rfl
noncomputable def T18 : Env := T17.put 55 (borrowX T17 55)
noncomputable def T19 : Env := T18.put 108 (borrowR T18 108)
end Go.Proofs.Ytnilimjkibimcaa

