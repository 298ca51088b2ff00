import Derived.Test.YtnilimjkibimcaaTb
set_option linter.unusedSimpArgs false
set_option linter.unusedVariables false

namespace Go.Proofs.Ytnilimjkibimcaa
open Go.Zz
set_option maxRecDepth 100000
set_option maxHeartbeats 8000000
noncomputable def T9 : Env := T8.put 49 (borrowX T3 49)
noncomputable def T10 : Env := T9.put 54 (borrowX T3 54)
def dotN (a b : List Int) (j : Nat) : Int := psumF (fun j => a.getD j 0 * b.getD j 0) j
def dotF (a b : List Int) : Int := dotN a b 6
def imgF (rows : List (List Int)) (v : List Int) : List Int := rows.map fun r => dotF r v
theorem byI (H : Hp) (r : List Int) : Zz.byVal H (.agg (icells r)) = some (.agg (icells r)) := by
  have : ∀ r : List Int, Zz.byL H (icells r) = some (icells r) := fun r => by
    induction r with
    | nil => rfl
    | cons x r ih =>
      show (match Zz.byC H (.int .i64 x), Zz.byL H (icells r) with | some a, some l => some (a :: l) | _, _ => none) = _
      rw [ih]
      rfl
  simp only [Zz.byVal, this]
noncomputable def T11 : Env := T10.put 110 (borrowR T10 110)
def imgR (rows : List (List Int)) (v : List Int) : List Int := if VT rows ∧ okB 48 v then imgF rows v else []
def errI (rows : List (List Int)) (v : List Int) : Int := if VT rows ∧ okB 48 v then 0 else 1
noncomputable def T12 : Env := T11.put 47 (borrowX T11 47)
def tempR (rows : List (List Int)) (v : List Int) : Bool := decide ((VT rows ∧ okB 48 v) ∧ ∀ t, t < rows.length → (imgF rows v).getD t 0 = 0)
noncomputable def T13 : Env := T12.put 50 (borrowX T12 50)
end Go.Proofs.Ytnilimjkibimcaa

