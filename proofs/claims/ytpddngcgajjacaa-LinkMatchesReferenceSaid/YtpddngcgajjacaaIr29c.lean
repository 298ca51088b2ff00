import Derived.Test.YtpddngcgajjacaaIr29b

namespace Go.Proofs.Ytpddngcgajjacaa
open Go.Zz

def ir44 : IFunc := ⟨15, [(.tmp 4)], (.seq (.region [⟨none, (some 4), (.move (.con .snil))⟩]) (.seq (.draw [⟨⟨none, (some 5), (.buildSlice 0 3 [(.bool false), (.int .i64 (0 : Int)), (.int .i64 (0 : Int))] [])⟩, []⟩, ⟨⟨none, (some 6), (.move (.tmp 0))⟩, []⟩, ⟨⟨none, (some 7), (.move (.tmp 1))⟩, []⟩, ⟨⟨none, (some 8), (.slice 3 (.tmp 6) none (some (.tmp 7)) none)⟩, [0]⟩, ⟨⟨none, (some 10), (.move (.tmp 0))⟩, []⟩, ⟨⟨none, (some 11), (.move (.tmp 1))⟩, []⟩, ⟨⟨none, (some 12), (.bin .add (.tmp 11) (.con (.int .i64 (1 : Int))))⟩, []⟩, ⟨⟨none, (some 13), (.slice 3 (.tmp 10) (some (.tmp 12)) none none)⟩, [0]⟩, ⟨⟨none, (some 9), (.append 3 24 (.tmp 5) (.tmp 8))⟩, [7]⟩, ⟨⟨none, (some 14), (.append 3 24 (.tmp 9) (.tmp 13))⟩, []⟩, ⟨⟨none, (some 4), (.move (.tmp 14))⟩, []⟩]) .ret))⟩
theorem cir44 : cFunc Try.prog Try.f44 = some ir44 := by kernel_rfl

end Go.Proofs.Ytpddngcgajjacaa

