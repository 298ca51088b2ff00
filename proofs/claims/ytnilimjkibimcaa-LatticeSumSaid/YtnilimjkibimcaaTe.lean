import Derived.Test.YtnilimjkibimcaaTd
set_option linter.unusedSimpArgs false
set_option linter.unusedVariables false

namespace Go.Proofs.Ytnilimjkibimcaa
open Go.Zz
set_option maxRecDepth 100000
set_option maxHeartbeats 8000000
def tunOK (rows gens : List (List Int)) (v : List Int) : Prop := VT rows ∧ gens.length = rows.length ∧ okB 48 v ∧ ∀ i, i < gens.length → okB 576 (rw_ gens i)
instance (rows gens : List (List Int)) (v : List Int) : Decidable (tunOK rows gens v) := by unfold tunOK; infer_instance
def tunP (rows gens : List (List Int)) (v : List Int) : List Int := if tunOK rows gens v ∧ okB 576 (tuneF rows gens v) then tuneF rows gens v else zer6
def errTu (rows gens : List (List Int)) (v : List Int) : Int := if tunOK rows gens v then (if okB 576 (tuneF rows gens v) then 0 else 3) else 1
theorem newI6 (H : Hp) (r : List Int) : Zz.newA H (.agg (icells r)) = some (.agg (icells r)) := by
  have : ∀ r : List Int, Zz.newL H (icells r) = some (icells r) := fun r => by
    induction r with
    | nil => rfl
    | cons x r ih =>
      show (match Zz.newC H (.int .i64 x), Zz.newL H (icells r) with | some a, some l => some (a :: l) | _, _ => none) = _
      rw [ih]
      rfl
  simp only [Zz.newA, this]
noncomputable def T15 : Env := T14.put 57 (borrowX T14 57)
end Go.Proofs.Ytnilimjkibimcaa

