import Derived.Test.YtnilimjkibimcaaNe
set_option linter.unusedSimpArgs false
set_option linter.unusedVariables false

namespace Go.Proofs.Ytnilimjkibimcaa
open Go.Zz
set_option maxRecDepth 100000
set_option maxHeartbeats 8000000
theorem GS.nat {H : Hp} {v : AV} {q : Nat} {l : List Nat} (h : GS 1 H v q (ncells l)) : ∃ x, NatS x l ∧ Zz.resV H v = some x := by
  obtain ⟨x, e1, e2⟩ := (JS.of_gs h).resC
  refine ⟨x, e2, ?_⟩
  rcases h with ⟨rfl, _⟩ | ⟨g, rfl, _⟩ | ⟨g, n, rfl, _⟩ <;> exact e1
noncomputable def E21 : Env := E20.put 100 (borrowE E20 100)
theorem E21_ok : EnvOk Try.prog E21 := Env.put_ok E20_ok (borrowE_ok E20_ok (callable Try.func100 (by kernel_rfl)))
noncomputable def E22 : Env := E21.put 31 (borrowE E21 31)
theorem E22_ok : EnvOk Try.prog E22 := Env.put_ok E21_ok (borrowE_ok E21_ok (callable Try.func31 (by kernel_rfl)))
end Go.Proofs.Ytnilimjkibimcaa

