import Derived.Test.YtnilimjkibimcaaAbsH

namespace Go.Zz
instance noGlobs : Globs := ⟨fun _ => none⟩
theorem noGlobW (w : World) : GlobW w := fun g l h => by cases h
theorem zNA {α : Type} (l : List α) : [] ++ l = l := rfl
theorem zAN {α : Type} (l : List α) : l ++ [] = l := List.append_nil l
theorem zCA {α : Type} (a : α) (l m : List α) : (a :: l) ++ m = a :: (l ++ m) := rfl
abbrev k0 : Opd := .con (.int .i64 0)
abbrev kI (n : Int) : Opd := .con (.int .i64 n)
abbrev mV (d s : Nat) : IOper := ⟨none, some d, .move (.tmp s)⟩
abbrev oO (d : Nat) (x : IOp) : IOper := ⟨none, some d, x⟩
abbrev oG (g : Nat) (b : Bool) (d : Nat) (x : IOp) : IOper := ⟨some (g, b), some d, x⟩
abbrev bT : Opd := .con (.bool true)
abbrev bF : Opd := .con (.bool false)
abbrev cF (n : Nat) : Opd := .con (.func n [] [])
abbrev tM (n : Nat) : Opd := .tmp n
abbrev i6 : List AV := [.int .i64 0, .int .i64 0, .int .i64 0, .int .i64 0, .int .i64 0, .int .i64 0]
end Go.Zz

