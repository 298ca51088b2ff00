import Derived.Test.YtnilimjkibimcaaTa
import Derived.Test.YtnilimjkibimcaaPQ

set_option linter.unusedSimpArgs false
set_option linter.unusedVariables false

namespace Go.Proofs.Ytnilimjkibimcaa
open Go.Zz
set_option maxRecDepth 100000
set_option maxHeartbeats 4000000
def VT (rows : List (List Int)) : Prop := (1 ≤ rows.length ∧ rows.length ≤ 3) ∧ (∀ i, i < rows.length → okB 400 (rw_ rows i)) ∧ VM rows ∧ rankF rows = rows.length
instance (rows : List (List Int)) : Decidable (VT rows) := by unfold VT; infer_instance
theorem RwL.byC {x : AV} {rows : List (List Int)} (h : RwL x rows) (H : Hp) : Zz.byC H x = some x := by
 have this := h.byVal H
 obtain ⟨_, ⟨rfl, _⟩ | ⟨f, rfl⟩⟩ := h <;> exact this
noncomputable def T7 : Env := T6.put 109 (borrowE T6 109)
noncomputable def T8 : Env := T7.put 45 (borrowX T7 45)
set_option maxRecDepth 100000
set_option maxHeartbeats 8000000
noncomputable def T9 : Env := T8.put 49 (borrowX T3 49)
noncomputable def T10 : Env := T9.put 54 (borrowX T3 54)
def dotN (a b : List Int) (j : Nat) : Int := psumF (fun j => a.getD j 0 * b.getD j 0) j
def dotF (a b : List Int) : Int := dotN a b 6
def imgF (rows : List (List Int)) (v : List Int) : List Int := rows.map fun r => dotF r v
theorem byI (H : Hp) (r : List Int) : Zz.byVal H (.agg (icells r)) = some (.agg (icells r)) := by
 have : ∀ r : List Int, Zz.byL H (icells r) = some (icells r) := fun r => by
  induction r with
  | nil => rfl
  | cons x r ih =>
   show (match Zz.byC H (.int .i64 x), Zz.byL H (icells r) with | some a, some l => some (a :: l) | _, _ => none) = _
   rw [ih]
   rfl
 simp only [Zz.byVal, this]
noncomputable def T11 : Env := T10.put 110 (borrowR T10 110)
def imgR (rows : List (List Int)) (v : List Int) : List Int := if VT rows ∧ okB 48 v then imgF rows v else []
def errI (rows : List (List Int)) (v : List Int) : Int := if VT rows ∧ okB 48 v then 0 else 1
noncomputable def T12 : Env := T11.put 47 (borrowX T11 47)
def tempR (rows : List (List Int)) (v : List Int) : Bool := decide ((VT rows ∧ okB 48 v) ∧ ∀ t, t < rows.length → (imgF rows v).getD t 0 = 0)
noncomputable def T13 : Env := T12.put 50 (borrowX T12 50)
set_option maxRecDepth 100000
set_option maxHeartbeats 8000000
def kerT (rows : List (List Int)) : List (List Int) := if VT rows then kerF rows else []
def errT (rows : List (List Int)) : Int := if VT rows then 0 else 1
noncomputable def T14 : Env := T13.put 52 (borrowX T13 52)
def tuneN (rows gens : List (List Int)) (v : List Int) (i k : Nat) : Int := psumF (fun t => (imgF rows v).getD t 0 * ent gens t k) i
def tuneF (rows gens : List (List Int)) (v : List Int) : List Int := (List.range 6).map fun k => tuneN rows gens v rows.length k
set_option maxRecDepth 100000
set_option maxHeartbeats 8000000
def tunOK (rows gens : List (List Int)) (v : List Int) : Prop := VT rows ∧ gens.length = rows.length ∧ okB 48 v ∧ ∀ i, i < gens.length → okB 576 (rw_ gens i)
instance (rows gens : List (List Int)) (v : List Int) : Decidable (tunOK rows gens v) := by unfold tunOK; infer_instance
def tunP (rows gens : List (List Int)) (v : List Int) : List Int := if tunOK rows gens v ∧ okB 576 (tuneF rows gens v) then tuneF rows gens v else zer6
def errTu (rows gens : List (List Int)) (v : List Int) : Int := if tunOK rows gens v then (if okB 576 (tuneF rows gens v) then 0 else 3) else 1
theorem newI6 (H : Hp) (r : List Int) : Zz.newA H (.agg (icells r)) = some (.agg (icells r)) := by
 have : ∀ r : List Int, Zz.newL H (icells r) = some (icells r) := fun r => by
  induction r with
  | nil => rfl
  | cons x r ih =>
   show (match Zz.newC H (.int .i64 x), Zz.newL H (icells r) with | some a, some l => some (a :: l) | _, _ => none) = _
   rw [ih]
   rfl
 simp only [Zz.newA, this]
noncomputable def T15 : Env := T14.put 57 (borrowX T14 57)
set_option maxRecDepth 100000
set_option maxHeartbeats 8000000
noncomputable def T16 : Env := T15.put 116 (borrowE T6 116)
def pureR (rows gens : List (List Int)) (v : List Int) : Bool := decide (errTu rows gens v = 0 ∧ tunP rows gens v = mul12 v)
noncomputable def T17 : Env := T16.put 59 (borrowX T16 59)
def fromC (rows : List (List Int)) : Prop := VM rows ∧ ∀ i, i < rows.length → okB 48 (rw_ rows i)
instance (rows : List (List Int)) : Decidable (fromC rows) := by unfold fromC; infer_instance
def fromR (rows : List (List Int)) : List (List Int) := if fromC rows ∧ VT (kerF rows) then kerF rows else []
def errF (rows : List (List Int)) : Int := if fromC rows then (if (kerF rows).length = 0 ∨ (kerF rows).length > 3 then 4 else if VT (kerF rows) then 0 else 3) else 1
theorem gs_cells {sz : Nat} {H : Hp} {v : AV} {q : Nat} {c : List AV} (h : GS sz H v q c) : v.cells = some [v] := by
 rcases h with ⟨rfl, _⟩ | ⟨g, rfl, _⟩ | ⟨g, n, rfl, _⟩ <;> rfl
noncomputable def T18 : Env := T17.put 55 (borrowX T17 55)
noncomputable def T19 : Env := T18.put 108 (borrowR T18 108)
end Go.Proofs.Ytnilimjkibimcaa

