import Derived.Test.YtnilimjkibimcaaNA
set_option linter.unusedSimpArgs false
set_option linter.unusedVariables false

namespace Go.Proofs.Ytnilimjkibimcaa
open Go.Zz
set_option maxRecDepth 100000
set_option maxHeartbeats 8000000
def IX (G : Hp) (N7 : Nat) (x : AV) (r : List Int) : Prop := (x = .snil ∧ r = []) ∨ ∃ b, 3 ≤ b ∧ b ≠ N7 ∧ b < G.length ∧ RowM G x b r
structure KM (G : Hp) (fr fc tc : List AV) (rows : List (List Int)) (S : Fr) (N7 k : Nat) : Prop where
  k0 : Zz.look G 0 0 = some fr
  k1 : Zz.look G 1 0 = some fc
  k2 : Zz.look G 2 0 = some tc
  tl : tc.length = S.js.length
  tn : ∀ t, k ≤ t → t < S.js.length → tc.getD t und = .snil
  td : ∀ t, t < k → IX G N7 (tc.getD t und) (tabF rows S t)
noncomputable def E20 : Env := E19.put 30 (borrowE E19 30)
theorem E20_ok : EnvOk Try.prog E20 := Env.put_ok E19_ok (borrowE_ok E19_ok (callable Try.func30 (by kernel_rfl)))
end Go.Proofs.Ytnilimjkibimcaa

