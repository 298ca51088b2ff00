import Derived.Test.YtnilimjkibimcaaNoG
import Derived.Test.YtnilimjkibimcaaRows
import Derived.KernelRfl

namespace Go.Proofs.Ytnilimjkibimcaa
open Go.Zz
def ir134 : IFunc := ⟨19, [(.tmp 4)], (.seq (.region [oO 4 (.move k0)]) (.seq (.seq (.region [mV 6 0, oO 7 (.lenS (tM 6)), oO 8 (.move k0)]) (.block 0 (.loop (.seq (.region [oO 9 (.bin .lss (tM 8) (tM 7))]) (.seq (.cond (tM 9) .skip (.exit 0)) (.seq (.block 1 (.seq (.region [mV 10 8, mV 5 10]) (.seq (.region [mV 11 1, mV 12 0, mV 13 5, oO 14 (.indexAddr 1 (tM 12) (tM 13)), oO 15 (.load false 1 (tM 14)), oO 16 (.call (tM 11) [(tM 15)])]) (.cond (tM 16) (.seq (.region [mV 17 5, mV 4 17]) .ret) .skip)))) (.region [oO 18 (.bin .add (tM 8) (kI 1)), mV 8 18]))))))) (.seq (.region [oO 4 (.move (.con (.int .i64 (-(0 + 1) : Int))))]) .ret)))⟩
theorem cir134 : cFunc Try.prog Try.f134 = some ir134 := by kernel_rfl
end Go.Proofs.Ytnilimjkibimcaa

