import Derived.Test.YtnilimjkibimcaaPn
import Derived.Test.YtnilimjkibimcaaPb
set_option linter.unusedSimpArgs false
set_option linter.unusedVariables false

namespace Go.Proofs.Ytnilimjkibimcaa
open Go.Zz
theorem foldl_ind {α : Type} {I : Nat → Prop} {f : Nat → α → Nat} : ∀ {l : List α} {a : Nat}, I a → (∀ a x, x ∈ l → I a → I (f a x)) → I (l.foldl f a)
  | [], a, h, _ => h
  | x :: l, a, h, hf => foldl_ind (l := l) (hf a x (by simp) h) fun a y hy => hf a y (by simp [hy])
end Go.Proofs.Ytnilimjkibimcaa

