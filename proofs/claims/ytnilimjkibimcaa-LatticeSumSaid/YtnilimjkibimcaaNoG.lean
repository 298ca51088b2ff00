import Derived.Test.YtnilimjkibimcaaAbsH

/-
  A program that reads no package-level variable.
-/
namespace Go.Zz
instance noGlobs : Globs := ⟨fun _ => none⟩
theorem noGlobW (w : World) : GlobW w := fun g l h => by cases h
def k0 : Opd := .con (.int .i64 0)
def kI (n : Int) : Opd := .con (.int .i64 n)
def mV (d s : Nat) : IOper := ⟨none, some d, .move (.tmp s)⟩
def oO (d : Nat) (x : IOp) : IOper := ⟨none, some d, x⟩
def oG (g : Nat) (b : Bool) (d : Nat) (x : IOp) : IOper := ⟨some (g, b), some d, x⟩
end Go.Zz

