import Derived.Test.YtnilimjkibimcaaAbsH

/-
  A program that reads no package-level variable.
-/
namespace Go.Zz
instance noGlobs : Globs := ⟨fun _ => none⟩
theorem noGlobW (w : World) : GlobW w := fun g l h => by cases h
end Go.Zz

