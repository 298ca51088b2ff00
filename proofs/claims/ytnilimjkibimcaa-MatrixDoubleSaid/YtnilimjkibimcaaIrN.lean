import Derived.Test.YtnilimjkibimcaaNoG
import Derived.Test.YtnilimjkibimcaaRows
import Derived.KernelRfl


namespace Go.Proofs.Ytnilimjkibimcaa
open Go.Zz

def ir134 : IFunc := ⟨19, [(.tmp 4)], (.seq (.region [⟨none, (some 4), (.move (.con (.int .i64 (0 : Int))))⟩]) (.seq (.seq (.region [⟨none, (some 6), (.move (.tmp 0))⟩, ⟨none, (some 7), (.lenS (.tmp 6))⟩, ⟨none, (some 8), (.move (.con (.int .i64 (0 : Int))))⟩]) (.block 0 (.loop (.seq (.region [⟨none, (some 9), (.bin .lss (.tmp 8) (.tmp 7))⟩]) (.seq (.cond (.tmp 9) .skip (.exit 0)) (.seq (.block 1 (.seq (.region [⟨none, (some 10), (.move (.tmp 8))⟩, ⟨none, (some 5), (.move (.tmp 10))⟩]) (.seq (.region [⟨none, (some 11), (.move (.tmp 1))⟩, ⟨none, (some 12), (.move (.tmp 0))⟩, ⟨none, (some 13), (.move (.tmp 5))⟩, ⟨none, (some 14), (.indexAddr 1 (.tmp 12) (.tmp 13))⟩, ⟨none, (some 15), (.load false 1 (.tmp 14))⟩, ⟨none, (some 16), (.call (.tmp 11) [(.tmp 15)])⟩]) (.cond (.tmp 16) (.seq (.region [⟨none, (some 17), (.move (.tmp 5))⟩, ⟨none, (some 4), (.move (.tmp 17))⟩]) .ret) .skip)))) (.region [⟨none, (some 18), (.bin .add (.tmp 8) (.con (.int .i64 (1 : Int))))⟩, ⟨none, (some 8), (.move (.tmp 18))⟩]))))))) (.seq (.region [⟨none, (some 4), (.move (.con (.int .i64 (-(0 + 1) : Int))))⟩]) .ret)))⟩
theorem cir134 : cFunc Try.prog Try.f134 = some ir134 := by kernel_rfl

end Go.Proofs.Ytnilimjkibimcaa

