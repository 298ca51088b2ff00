import Derived.Test.YtnilimjkibimcaaDoorAbsH

/-
  The organ's package-level table: the logarithms of the primes.
-/
namespace Go.Zz
def logsA : List AV := [.int .i64 1000000000, .int .i64 1000000000, .int .i64 1584962500, .int .i64 1584962501, .int .i64 2321928094, .int .i64 2321928095, .int .i64 2807354922, .int .i64 2807354923, .int .i64 3459431618, .int .i64 3459431619, .int .i64 3700439718, .int .i64 3700439719]
instance logGlobs : Globs := ⟨fun g => match g with | 0 => some logsA | _ => none⟩
def k0 : Opd := .con (.int .i64 0)
def kI (n : Int) : Opd := .con (.int .i64 n)
def mV (d s : Nat) : IOper := ⟨none, some d, .move (.tmp s)⟩
def oO (d : Nat) (x : IOp) : IOper := ⟨none, some d, x⟩
def oG (g : Nat) (b : Bool) (d : Nat) (x : IOp) : IOper := ⟨some (g, b), some d, x⟩
end Go.Zz

