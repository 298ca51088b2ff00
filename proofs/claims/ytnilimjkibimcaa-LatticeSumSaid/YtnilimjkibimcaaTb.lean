import Derived.Test.YtnilimjkibimcaaTa
set_option linter.unusedSimpArgs false
set_option linter.unusedVariables false

namespace Go.Proofs.Ytnilimjkibimcaa
open Go.Zz
set_option maxRecDepth 100000
set_option maxHeartbeats 4000000
def VT (rows : List (List Int)) : Prop := (1 ≤ rows.length ∧ rows.length ≤ 3) ∧ (∀ i, i < rows.length → okB 400 (rw_ rows i)) ∧ VM rows ∧ rankF rows = rows.length
instance (rows : List (List Int)) : Decidable (VT rows) := by unfold VT; infer_instance
theorem RwL.byC {x : AV} {rows : List (List Int)} (h : RwL x rows) (H : Hp) : Zz.byC H x = some x := by
  have this := h.byVal H
  obtain ⟨_, ⟨rfl, _⟩ | ⟨f, rfl⟩⟩ := h <;> exact this
noncomputable def T7 : Env := T6.put 109 (borrowE T6 109)
noncomputable def T8 : Env := T7.put 45 (borrowX T7 45)
end Go.Proofs.Ytnilimjkibimcaa

