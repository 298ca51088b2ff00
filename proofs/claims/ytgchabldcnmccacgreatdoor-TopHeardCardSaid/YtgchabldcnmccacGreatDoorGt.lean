import Derived.Test.YtgchabldcnmccacGreatDoorAbsH

namespace Go.Zz
def nibT : List Int := [0, 498536548, 997073096, 651767980, 1994146192, 1802195444, 1303535960, 1342533948, 3988292384, 4027552580, 3604390888, 3412177804, 2607071920, 2262029012, 2685067896, 3183342108]
def nibA : List AV := nibT.map fun n => .int .u32 n
instance nibGlobs : Globs := ⟨fun g => match g with | 0 => some nibA | _ => none⟩
def k0 : Opd := .con (.int .i64 0)
def kI (n : Int) : Opd := .con (.int .i64 n)
def mV (d s : Nat) : IOper := ⟨none, some d, .move (.tmp s)⟩
def oO (d : Nat) (x : IOp) : IOper := ⟨none, some d, x⟩
def oG (g : Nat) (b : Bool) (d : Nat) (x : IOp) : IOper := ⟨some (g, b), some d, x⟩
end Go.Zz

